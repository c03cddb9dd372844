/-
  Contracts of the functions of this seat that each theorem names: what a call returns, and that it writes nothing that was there before. The conditions stand in each theorem.
-/
import Derived.Test.YthigjlllhnajbaaC25Step6
import Derived.Test.YthigjlllhnajbaaC25Ready2
namespace Go.Proofs.Ythigjlllhnajbaa
open Go.RowKit
set_option maxRecDepth 100000 in
set_option maxHeartbeats 8000000 in
theorem step7_none {base p n : Nat} {sv nv cv ov lv : Value} {st : PairS} {ls : List LA} (w : World) (P : PairAt base p w sv nv cv ov lv st ls) (hb : base ≤ w.heap.size) (hz : ls.length = 0) :
    Calls Try.prog 23 #[.pointer (some ⟨p, 0, none⟩), .agg #[.int .u8 7, .int .u8 n]] w (PPost base p w (st.apply n)) := by
  obtain ⟨sA, sC, rfl, hsc, hsm, hsS⟩ := P.k.s.slAt StubE.enc
  obtain ⟨nA, nC, rfl, hnc, hnm, hnS⟩ := P.k.n.slAt ScionE.enc
  obtain ⟨cA, cC, rfl, hcc, hcm, hcS⟩ := P.k.c.slAt ScionE.enc
  obtain ⟨oA, oC, rfl, hoc, hom, hoS⟩ := P.k.o.slAt ScionE.enc
  obtain ⟨lA, lC, rfl, hlc, hlm, hlS⟩ := P.k.l.slAt LA.enc
  have BP := boxed P.h
  have hPl := blk_lt P.h
  have hPb := P.b
  have hlz : st.lists.length = 0 := by rw [← P.k.lp, List.length_map, hz]
  have Hd := hide (show st.apply n = st by unfold PairS.apply; rw [List.getElem?_eq_none (by omega)])
  go_enter Try.func23, Try.ntmps23
  go_upto_region 1 with fail
  refine wp_name ?_
  intro w1 hw1
  obtain ⟨B1, l1⟩ := box1 hw1
  have hb1 : Below w.heap.size w w1 := below_of
  clear hw1
  have P1 := P.below hb1
  have hzz : ((ls.length : Int) == 0) = true := by rw [hz]; rfl
  have hnil : ls = [] := List.length_eq_zero_iff.1 hz
  go_wp2_with fail
  refine bodyPost_ret (results_none rfl _ _ _) rfl ?_
  rw [Hd.out]
  exact ⟨rfl, ⟨_, _, _, _, _, ls, P1⟩, hb1.mono hb⟩
end Go.Proofs.Ythigjlllhnajbaa
