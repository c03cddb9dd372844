/-
  Contracts of the functions of this seat that each theorem names: what a call returns, and that it writes nothing that was there before. The conditions stand in each theorem.
-/
import Derived.Test.YthigjlllhnajbaaC25Step8
import Derived.Test.YthigjlllhnajbaaC25Evt
namespace Go.Proofs.Ythigjlllhnajbaa
open Go.RowKit
set_option maxRecDepth 100000 in
set_option maxHeartbeats 4000000 in
theorem step8_any {base p k n : Nat} {sv nv cv ov lv : Value} {st : PairS} {ls : List LA} (w : World) (P : PairAt base p w sv nv cv ov lv st ls) (hb : base ≤ w.heap.size) (hk : 8 ≤ k) :
    Calls Try.prog 23 #[.pointer (some ⟨p, 0, none⟩), .agg #[.int .u8 k, .int .u8 n]] w (PPost base p w st) := by
  have h0 : ((k : Int) == 0) = false := by simp; omega
  have h1 : ((k : Int) == 1) = false := by simp; omega
  have h2 : ((k : Int) == 2) = false := by simp; omega
  have h3 : ((k : Int) == 3) = false := by simp; omega
  have h4 : ((k : Int) == 4) = false := by simp; omega
  have h5 : ((k : Int) == 5) = false := by simp; omega
  have h6 : ((k : Int) == 6) = false := by simp; omega
  have h7 : ((k : Int) == 7) = false := by simp; omega
  go_enter Try.func23, Try.ntmps23
  go_upto_region 1 with fail
  refine wp_name ?_
  intro w1 hw1
  obtain ⟨B1, l1⟩ := box1 hw1
  have hb1 : Below w.heap.size w w1 := below_of
  clear hw1
  have P1 := P.below hb1
  go_wp2_with fail
  go_end0
  exact ⟨rfl, ⟨_, _, _, _, _, ls, P1.later _⟩, (show Below w.heap.size w _ from below_of).mono hb⟩
theorem step_any {base p k n : Nat} {sv nv cv ov lv : Value} {st : PairS} {ls : List LA} (w : World) (P : PairAt base p w sv nv cv ov lv st ls) (hb : base ≤ w.heap.size) (hn : n < 256) (hle : PLe st 1000) (hpi : PI st) :
    Calls Try.prog 23 #[.pointer (some ⟨p, 0, none⟩), .agg #[.int .u8 k, .int .u8 n]] w (PPost base p w (st.step k n)) := by
  have hll : ls.length = st.lists.length := by rw [← P.k.lp, List.length_map]
  have hin := hpi.len
  obtain ⟨a, b, c, d, e, f, g, i, j, h10⟩ := hle
  clear hpi
  match k with
  | 0 => exact step0_any w P hb f i b c
  | 1 => exact step1_any w P hb e i a d
  | 2 => exact step2_any w P hb (by omega) b d
  | 3 => exact step3_any w P hb (by omega) a c
  | 4 => exact step4_any w P hb hn a
  | 5 => exact step5_any w P hb hn a
  | 6 => exact step6_any w P hb g a (by omega)
  | 7 =>
    rcases Nat.eq_zero_or_pos ls.length with hz | hz
    · exact step7_none w P hb hz
    · exact step7_some w P hb hn hz b (by omega) fun L hL => h10 _ (by rw [← P.k.lp]; exact List.mem_map_of_mem hL)
  | k + 8 => exact step8_any w P hb (by omega)
end Go.Proofs.Ythigjlllhnajbaa
