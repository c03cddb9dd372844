/-
  Contracts of the functions of this seat that each theorem names: what a call returns, and that it writes nothing that was there before. The conditions stand in each theorem.
-/
import Derived.Test.YthigjlllhnajbaaC25Pair3
namespace Go.Proofs.Ythigjlllhnajbaa
open Go.RowKit
/-! An append onto a field of the pair, in a region that draws its order: W the world ahead, OWN the slice's Own in it, v the slice, X the element, bx the block that must stay, i4 i6 i7 i10 the operations (load, buildSlice, append, store). -/
set_option maxRecDepth 100000 in
theorem object_any (n : Nat) (w : World) :
    Calls Try.prog 38 #[.int .u8 n] w fun r w' => r = .returned (.agg #[.int .i64 2, .int .i64 (1 + (n : Int) % 4)]) ∧ Below w.heap.size w w' := by
  have e1 : IntKind.u8.wrap (Int.tmod (n : Int) 4) = (n : Int) % 4 := by
    rw [show Int.tmod (n : Int) 4 = ((n % 4 : Nat) : Int) from rfl]; simp [IntKind.wrap, IntKind.bits, IntKind.signed]; omega
  have e2 : IntKind.i64.wrap ((n : Int) % 4) = (n : Int) % 4 := by simp [IntKind.wrap, IntKind.bits, IntKind.signed]; omega
  have e3 : IntKind.i64.wrap (1 + (n : Int) % 4) = 1 + (n : Int) % 4 := by simp [IntKind.wrap, IntKind.bits, IntKind.signed]; omega
  go_enter Try.func38, Try.ntmps38
  go_upto_region 1 with fail
  refine wp_name ?_
  intro w1 hw1
  have hb1 : Below w.heap.size w w1 := by rw [← hw1]; exact below_of
  obtain ⟨B1, l1⟩ := box1 hw1
  clear hw1
  go_wp2_with fail
  have b2 := blk_set (blk_set (B1 w1).1 0 (.int .i64 2)) 1 (.int .i64 (1 + (n : Int) % 4))
  have r0 := blk_cell b2 0
  have r1 := blk_cell b2 1
  simp at r0 r1
  refine bodyPost_ret (v := .agg #[.int .i64 2, .int .i64 (1 + (n : Int) % 4)]) (by simp [results, Try.results38, go_sem, r0, r1]) rfl ⟨rfl, ?_⟩
  exact (hb1.setCell (p := ⟨_, 0, none⟩) (Nat.le_refl _) _).setCell (p := ⟨_, 1, none⟩) (Nat.le_refl _) _
set_option maxRecDepth 100000 in
set_option maxHeartbeats 4000000 in
theorem step1_any {base p n : Nat} {sv nv cv ov lv : Value} {st : PairS} {ls : List LA} (w : World) (P : PairAt base p w sv nv cv ov lv st ls) (hb : base ≤ w.heap.size) (h1 : st.sent ≤ 1000) (h2 : st.next ≤ 1000) (hl : st.stubs.length ≤ 1000) (hlo : st.toOwner.length ≤ 1000) :
    Calls Try.prog 23 #[.pointer (some ⟨p, 0, none⟩), .agg #[.int .u8 1, .int .u8 n]] w (PPost base p w st.move) := by
  go_enter Try.func23, Try.ntmps23
  go_upto_region 1 with fail
  refine wp_name ?_
  intro w1 hw1
  obtain ⟨B1, l1⟩ := box1 hw1
  have hb1 : Below w.heap.size w w1 := below_of
  clear hw1
  have P1 := P.below hb1
  go_wp2_with (go_at_call 39; refine (move_any _ P1 (Nat.le_trans hb hb1.size) h1 h2 hl hlo).mono ?_)
  rintro r w4 ⟨rfl, h4, hb4⟩
  go_wp2_with fail
  go_end0
  exact ⟨rfl, h4, (hb1.mono hb).trans (hb4)⟩
set_option maxRecDepth 100000 in
set_option maxHeartbeats 4000000 in
theorem step3_any {base p n : Nat} {sv nv cv ov lv : Value} {st : PairS} {ls : List LA} (w : World) (P : PairAt base p w sv nv cv ov lv st ls) (hb : base ≤ w.heap.size) (h1 : st.inn ≤ st.toClient.length) (hl : st.stubs.length ≤ 1000) (hlc : st.toClient.length ≤ 1000) :
    Calls Try.prog 23 #[.pointer (some ⟨p, 0, none⟩), .agg #[.int .u8 3, .int .u8 n]] w (PPost base p w st.receive) := by
  go_enter Try.func23, Try.ntmps23
  go_upto_region 1 with fail
  refine wp_name ?_
  intro w1 hw1
  obtain ⟨B1, l1⟩ := box1 hw1
  have hb1 : Below w.heap.size w w1 := below_of
  clear hw1
  have P1 := P.below hb1
  go_wp2_with (go_at_call 24; refine (receive_any _ P1 (Nat.le_trans hb hb1.size) h1 hl hlc).mono ?_)
  rintro r w4 ⟨rfl, h4, hb4⟩
  go_wp2_with fail
  go_end0
  exact ⟨rfl, h4, (hb1.mono hb).trans (hb4)⟩
set_option maxRecDepth 100000 in
set_option maxHeartbeats 4000000 in
theorem step0_any {base p n : Nat} {sv nv cv ov lv : Value} {st : PairS} {ls : List LA} (w : World) (P : PairAt base p w sv nv cv ov lv st ls) (hb : base ≤ w.heap.size) (h1 : st.out ≤ 1000) (h2 : st.next ≤ 1000) (hl : st.scions.length ≤ 1000) (hlc : st.toClient.length ≤ 1000) :
    Calls Try.prog 23 #[.pointer (some ⟨p, 0, none⟩), .agg #[.int .u8 0, .int .u8 n]] w (PPost base p w (st.export 2 (1 + (n : Int) % 4))) := by
  go_enter Try.func23, Try.ntmps23
  go_upto_region 1 with fail
  refine wp_name ?_
  intro w1 hw1
  obtain ⟨B1, l1⟩ := box1 hw1
  have hb1 : Below w.heap.size w w1 := below_of
  clear hw1
  have P1 := P.below hb1
  go_wp2_with (go_at_call 38; refine (object_any n _).mono ?_)
  rintro r w2 ⟨rfl, hb2⟩
  have P2 := P1.below hb2
  go_wp2_with (go_at_call 37; refine (export_any 2 (1 + (n : Int) % 4) _ P2 (Nat.le_trans hb (Nat.le_trans hb1.size hb2.size)) h1 h2 hl hlc).mono ?_)
  rintro r w4 ⟨rfl, h4, hb4⟩
  go_wp2_with fail
  go_end0
  exact ⟨rfl, h4, ((hb1.mono hb).trans (hb2.mono (Nat.le_trans hb hb1.size))).trans (hb4)⟩
end Go.Proofs.Ythigjlllhnajbaa
