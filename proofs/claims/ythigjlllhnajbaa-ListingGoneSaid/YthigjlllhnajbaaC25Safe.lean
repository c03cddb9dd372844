/-
  Contracts of the functions of this seat that each theorem names: what a call returns, and that it writes nothing that was there before. The conditions stand in each theorem.
-/
import Derived.Test.YthigjlllhnajbaaC25Evt
import Derived.Test.YthigjlllhnajbaaC25PairAt
import Derived.Test.YthigjlllhnajbaaC25RefCovers
namespace Go.Proofs.Ythigjlllhnajbaa
open Go.RowKit
/-- The rest of a slice. -/
theorem SlAt.rest {α : Type} {f : α → List Value} {s : Nat} {w : World} {A : Option Addr} {l : List α} (h : SlAt f s w A l) {k c : Nat} (hc : l.length ≤ c) : SlAt f s w (if c = k then A else A.map (fun a => a.add (k * s))) (l.drop k) := fun hl => by
  have hk : k < l.length := by
    rcases Nat.lt_or_ge k l.length with h | h
    · exact h
    · exact absurd (List.drop_eq_nil_of_le h) hl
  obtain ⟨b, off, e, hlt, hc'⟩ := h (by rintro rfl; simp at hk)
  subst e
  rw [if_neg (by omega)]
  obtain ⟨b', o', e', r⟩ := SlAt.drop h k hl
  refine ⟨b', o', ?_, r⟩
  rw [← e', Option.map_some]
  congr 1
  unfold Addr.add
  split
  · rename_i hz; rw [hz]; rfl
  · rfl
def knownS (p : PairS) (k : Nat) : List StubE := (p.stubs.take k).filter fun s => !movB p s
theorem knownS_succ {p : PairS} {k : Nat} {s : StubE} (h : p.stubs[k]? = some s) : knownS p (k + 1) = knownS p k ++ (if movB p s then [] else [s]) := by
  unfold knownS
  rw [take_snoc_get h, List.filter_append]
  cases hm : movB p s <;> simp [hm]
set_option maxRecDepth 100000 in
set_option maxHeartbeats 8000000 in
theorem safe_any {base p : Nat} {sv nv cv ov lv : Value} {st : PairS} {ls : List LA} (w : World) (P : PairAt base p w sv nv cv ov lv st ls) (hg : st.got ≤ st.toOwner.length) (hi : st.inn ≤ st.toClient.length) (hl : st.stubs.length ≤ 1000) (hlc : st.toClient.length ≤ 1000) (hlo : st.toOwner.length ≤ 1000) (hln : st.scions.length ≤ 1000) :
    Calls Try.prog 27 #[.pointer (some ⟨p, 0, none⟩)] w fun r w' => r = .returned (.bool (coversB st.scions (knownL st) 2 1)) ∧ Below w.heap.size w w' := by
  obtain ⟨sA, sC, rfl, hsc, hsm, hsS⟩ := P.k.s.slAt StubE.enc
  obtain ⟨nA, nC, rfl, hnc, hnm, hnS⟩ := P.k.n.slAt ScionE.enc
  obtain ⟨cA, cC, rfl, hcc, hcm, hcS⟩ := P.k.c.slAt ScionE.enc
  obtain ⟨oA, oC, rfl, hoc, hom, hoS⟩ := P.k.o.slAt ScionE.enc
  obtain ⟨lA, lC, rfl, hlc, hlm, hlS⟩ := P.k.l.slAt LA.enc
  have BP := boxed P.h
  have hPl := blk_lt P.h
  have hPb := P.b
  have HS : ∀ u [Later w u], SlAt StubE.cells 12 u sA st.stubs := fun u i => hsS.below i.below
  have HN : ∀ u [Later w u], SlAt ScionE.cells 12 u nA st.scions := fun u i => hnS.below i.below
  obtain ⟨oR, hoR⟩ : ∃ A, A = (if oC = st.got then oA else oA.map (fun a => a.add (st.got * 12))) := ⟨_, rfl⟩
  obtain ⟨cR, hcR⟩ : ∃ A, A = (if cC = st.inn then cA else cA.map (fun a => a.add (st.inn * 12))) := ⟨_, rfl⟩
  have HO : ∀ u [Later w u], SlAt ScionE.cells 12 u oR (st.toOwner.drop st.got) := fun u i => by rw [hoR]; exact SlAt.rest (hoS.below i.below) hoc
  have HC : ∀ u [Later w u], SlAt ScionE.cells 12 u cR (st.toClient.drop st.inn) := fun u i => by rw [hcR]; exact SlAt.rest (hcS.below i.below) hcc
  have hoL : st.toOwner.length - st.got = (st.toOwner.drop st.got).length := by rw [List.length_drop]
  have hcL : st.toClient.length - st.inn = (st.toClient.drop st.inn).length := by rw [List.length_drop]
  obtain ⟨O, hO⟩ : ∃ O, O = st.toOwner.drop st.got := ⟨_, rfl⟩
  obtain ⟨C, hC⟩ : ∃ C, C = st.toClient.drop st.inn := ⟨_, rfl⟩
  rw [← hO] at HO hoL
  rw [← hC] at HC hcL
  have hgi : (st.got : Int) ≤ (st.toOwner.length : Int) := by omega
  have hii : (st.inn : Int) ≤ (st.toClient.length : Int) := by omega
  have hO' := hide hO
  have hC' := hide hC
  have hOl : O.length ≤ 1000 := by omega
  have hCl : C.length ≤ 1000 := by omega
  have hoF := hoR.symm
  have hcF := hcR.symm
  clear hO hC hoR hcR
  go_enter Try.func27, Try.ntmps27
  go_upto_region 3 with fail
  go_loopw [3, 16] (fun kv iv wr => ∃ (k : Nat) (q : List StubE) (B : Option Addr) (D : Nat), k ≤ st.stubs.length ∧ iv = .int .i64 k ∧ Hid (q = knownS st k) ∧ kv = .slice B q.length D ∧ Own StubE.cells 12 tSt w.heap.size wr (.slice B q.length D) q ∧ Below w.heap.size w wr) (fun _ iv _ => st.stubs.length - (intOf iv).toNat)
  case atStart => exact ⟨0, [], none, 0, by omega, rfl, hide rfl, rfl, Own.nil, Below.refl _ _⟩
  case round =>
    obtain ⟨k, q, B, D, hk, rfl, hq, rfl, ho, hbr⟩ := hrel
    have lr := later hbr
    have hql : q.length ≤ 1000 := by rw [hq.out]; exact Nat.le_trans (List.length_filter_le _ _) (by rw [List.length_take]; omega)
    have hzr := hbr.size
    by_cases hlt : k < st.stubs.length
    · obtain ⟨b1, o1, y, rfl, hy, C1⟩ := StubE.get (HS wr) hlt
      have hT := hide (knownS_succ hy)
      have hki : (k : Int) < (st.stubs.length : Int) := by omega
      clear hy
      go_upto_region 6 with fail
      refine wp_name ?_
      intro w6 hw6
      obtain ⟨BY, l6⟩ := box1 hw6
      clear hw6
      go_upto_region 6 with fail
      (refine wp_region_after (by kernel_rfl) (by kernel_rfl) ?_
       repeat (any_goals (first | go_big_quiet_skip | (go_big_quiet_want; go_big_quiet_op; first | go_big_quiet_on | go_big_quiet_call (fail)) | quiet_step (fail) | (refine wpQuiet_step (fun K hK => ?_); go_simp; split <;> (refine hK _ ?_; clear hK K))))
       all_goals (refine wpQuiet_nil ?_; intro _ hw'; obtain ⟨u', hw''⟩ := hw'; subst hw''; obtain ⟨wd, hbd⟩ := u'; simp only [After.val_mk]))
      have ld := later hbd
      go_wp2_with fail
      go_loopw [6, 30] (fun mv jv wi => ∃ j : Nat, j ≤ O.length ∧ jv = .int .i64 j ∧ mv = .bool ((O.take j).any (fun x => x.number == y.number)) ∧ Below wd.heap.size wd wi) (fun _ jv _ => O.length - (intOf jv).toNat)
      case atStart => exact ⟨0, by omega, rfl, rfl, Below.refl _ _⟩
      case round =>
        obtain ⟨j, hj, rfl, rfl, hbi⟩ := hrel
        have li := later hbi
        by_cases hltj : j < O.length
        · obtain ⟨b2, o2, x, hA2, hx, C2⟩ := ScionE.get (HO wr) hltj
          have hji : (j : Int) < (O.length : Int) := by omega
          have HX := hide (any_take (p := fun x : ScionE => x.number == y.number) hx)
          clear hx
          cases hf : (O.take j).any (fun x => x.number == y.number)
          · by_cases hxy : x.number = y.number
            · have hb : (x.number == y.number) = true := by simp [hxy]
              go_wp2_with fail
              go_roundw
              case rel => exact ⟨j + 1, by omega, by go_num, by rw [HX.out, hf]; simp [hxy], below_of⟩
              case measure => simp [intOf]; omega
            · have hb : (x.number == y.number) = false := by simp [hxy]
              go_wp2_with fail
              go_roundw
              case rel => exact ⟨j + 1, by omega, by go_num, by rw [HX.out, hf]; simp [hxy], below_of⟩
              case measure => simp [intOf]; omega
          · go_wp2_with fail
            go_roundw
            case rel => exact ⟨j + 1, by omega, by go_num, by rw [HX.out, hf]; rfl, below_of⟩
            case measure => simp [intOf]; omega
        · have hj' : j = O.length := by omega
          subst hj'
          rw [List.take_length]
          have hmv : O.any (fun x => x.number == y.number) = movB st y := by rw [hO'.out]; rfl
          rw [hmv]
          cases hm : movB st y
          · have hqe := hide (show q ++ [y] = knownS st (k + 1) by rw [hT.out, hq.out, hm]; rfl)
            have hqk := hide (show q.length + 1 = (q ++ [y]).length by simp)
            have hzz : w.heap.size ≤ (wr).heap.size := (show Below w.heap.size w wr from below_of).size
            go_upto_region 12 with fail
            go_wp2_with (at_builtin; refine wpList_app1 rfl (.tmp 45) (.tmp 47) rfl StubE.enc stubT y rfl rfl rfl (ho.later _) (by rfl) (by omega) (by unfold maxLen; omega) (show Below w.heap.size w _ from below_of).size ?_; intro A' c' w4 ho4 hm4 hb4 hg4 hat4)
            go_roundw
            case rel => exact ⟨k + 1, q ++ [y], A', c', by omega, by go_num, hqe, by rw [← hqk.out], by rw [← hqk.out]; exact ho4, (show Below w.heap.size w _ from below_of).trans hb4⟩
            case measure => simp [intOf]; omega
          · have hqe := hide (show q = knownS st (k + 1) by rw [hT.out, hq.out, hm]; simp)
            go_wp2_with fail
            go_roundw
            case rel => exact ⟨k + 1, q, B, D, by omega, by go_num, hqe, rfl, ho.later _, below_of⟩
            case measure => simp [intOf]; omega
    · have hk' : k = st.stubs.length := by omega
      subst hk'
      have hq' := hide (show q = st.stubs.filter fun s => !movB st s by rw [hq.out]; unfold knownS; rw [List.take_length])
      go_upto_region 14 with fail
      (refine wp_region_after (by kernel_rfl) (by kernel_rfl) ?_
       repeat (any_goals (first | go_big_quiet_skip | (go_big_quiet_want; go_big_quiet_op; first | go_big_quiet_on | go_big_quiet_call (fail)) | quiet_step (fail) | (refine wpQuiet_step (fun K hK => ?_); go_simp; split <;> (refine hK _ ?_; clear hK K))))
       all_goals (refine wpQuiet_nil ?_; intro _ hw'; obtain ⟨u', hw''⟩ := hw'; subst hw''; obtain ⟨wd, hbd⟩ := u'; simp only [After.val_mk]))
      have ld := later hbd
      have hod := ho.later wd
      have hzd : w.heap.size ≤ wd.heap.size := (show Below w.heap.size w wd from below_of).size
      have hbwd : Below w.heap.size w wd := below_of
      clear ho hq hbd
      go_wp2_with fail
      go_loopw [3, 60] (fun kv jv wi => ∃ (j : Nat) (q2 : List StubE) (B : Option Addr) (D : Nat), j ≤ C.length ∧ jv = .int .i64 j ∧ Hid (q2 = q ++ (C.take j).map newStub) ∧ kv = .slice B q2.length D ∧ Own StubE.cells 12 tSt w.heap.size wi (.slice B q2.length D) q2 ∧ Below w.heap.size w wi) (fun _ jv _ => C.length - (intOf jv).toNat)
      case atStart => exact ⟨0, q, B, D, by omega, rfl, hide (by simp), rfl, hod, hbwd⟩
      case round =>
        obtain ⟨j, q2, B2, D2, hj, rfl, hq2, rfl, ho2, hbi⟩ := hrel
        have li := later hbi
        have hq2l : q2.length ≤ 2000 := by rw [hq2.out, List.length_append, List.length_map, List.length_take]; omega
        by_cases hltj : j < C.length
        · obtain ⟨b2, o2, x, rfl, hx, C2⟩ := ScionE.get (HC wr) hltj
          have hji : (j : Int) < (C.length : Int) := by omega
          have hqe := hide (show q2 ++ [newStub x] = q ++ (C.take (j + 1)).map newStub by rw [take_snoc_get hx, List.map_append, hq2.out]; simp)
          have hqk := hide (show q2.length + 1 = (q2 ++ [newStub x]).length by simp)
          clear hx
          go_upto_region 17 with fail
          refine wp_name ?_
          intro w7 hw7
          obtain ⟨B7, l7⟩ := box1 hw7
          clear hw7
          go_wp2_with (at_builtin; refine wpList_app1 rfl (.tmp 64) (.tmp 70) rfl StubE.enc stubT (newStub x) rfl rfl rfl (ho2.later _) (by rfl) (by omega) (by unfold maxLen; omega) (show Below w.heap.size w _ from below_of).size ?_; intro A' c' w4 ho4 hm4 hb4 hg4 hat4)
          go_roundw
          case rel => exact ⟨j + 1, q2 ++ [newStub x], A', c', by omega, by go_num, hqe, by rw [← hqk.out], by rw [← hqk.out]; exact ho4, (show Below w.heap.size w _ from below_of).trans hb4⟩
          case measure => simp [intOf]; omega
        · have hj' : j = C.length := by omega
          subst hj'
          have hqf := hide (show q2 = knownL st by rw [hq2.out, List.take_length, hq'.out, hC'.out]; rfl)
          have H2 : ∀ u [Later wr u], SlAt StubE.cells 12 u B2 q2 := fun u i => ((ho2.below i.below).at_ StubE.enc).2.2
          have HCv : ∀ u [Later wr u], Calls Try.prog 25 #[.slice nA st.scions.length nC, .slice B2 q2.length D2, .int .i64 2, .int .i64 1] u fun r w' => r = .returned (.bool (coversB st.scions q2 2 1)) ∧ Below u.heap.size u w' := fun u i => covers_any nA nC st.scions B2 D2 q2 2 1 u (by haveI := (li w).trans i; exact HN u) (H2 u) (by omega) (by omega)
          obtain ⟨cv, hcv⟩ : ∃ cv, cv = coversB st.scions q2 2 1 := ⟨_, rfl⟩
          rw [← hcv] at HCv
          have Hcv := hide hcv
          clear hcv
          go_wp2_with (go_at_call 25; refine (HCv _).mono ?_; rintro r w4 ⟨rfl, hb4⟩; have l4 := later hb4)
          go_ret
          exact ⟨ret_bool (by rw [Hcv.out, hqf.out]), below_of⟩
end Go.Proofs.Ythigjlllhnajbaa
