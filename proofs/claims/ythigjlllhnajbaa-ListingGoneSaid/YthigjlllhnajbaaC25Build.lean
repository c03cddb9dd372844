/-
  Contracts of the functions of this seat that each theorem names: what a call returns, and that it writes nothing that was there before. The conditions stand in each theorem.
-/
import Derived.Test.YthigjlllhnajbaaC25Sort
import Derived.Test.YthigjlllhnajbaaC25Apply
import Derived.Test.YthigjlllhnajbaaC25Plain3
namespace Go.Proofs.Ythigjlllhnajbaa
open Go.RowKit
attribute [local go_sem] Oper.semAt_some
theorem zeroBool (w : World) : (zeroValue 4).run Try.prog w = .ok (.bool false) w := by kernel_rfl
theorem seen_snoc {l : List ListedE} {y : ListedE} : mupd (seenM l) y.number true = seenM (l ++ [y]) := by
  funext n
  unfold mupd seenM
  rw [hasN_snoc]
  by_cases h : n = y.number
  · simp [h]
  · simp [h, Ne.symm h]
set_option maxRecDepth 100000 in
set_option maxHeartbeats 4000000 in
theorem build_any (sA : Option Addr) (sC : Nat) (es : List StubE) (owner R S C : Int) (w : World) (hs : SlAt StubE.cells 12 w sA es) (hsl : es.length ≤ 100000000) :
    Calls Try.prog 12 #[.slice sA es.length sC, .int .i64 owner, .int .i64 R, .int .i64 S, .int .i64 C] w fun r w' => ∃ A c l, r = .returned (.agg #[.int .i64 R, .int .i64 S, .int .i64 C, .slice A l.length c]) ∧
      l.Perm (dedL owner es) ∧ l.Pairwise (fun x y => Go.Proofs.ltOf cmpL y x = false) ∧ Own ListedE.cells 3 64 w.heap.size w' (.slice A l.length c) l ∧ Below w.heap.size w w' := by
  have Hs := hs.later
  have hmm := @run_makeMap Try.prog
  have hsl' : es.length ≤ 9223372036854775807 := by omega
  go_enter Try.func12, Try.ntmps12
  go_upto_region 3 with fail
  refine wp_name ?_
  intro w1 hw1
  have b0 : w1.heap[w.heap.size]? = some (.cells #[.int .i64 0, .int .i64 0, .int .i64 0, .slice none 0 0] 26 (0, 0)) := (by rw [← hw1]; simp only [heap_alloc_if, World.size_alloc]; repeat (first | rw [if_pos trivial] | rw [if_neg (by omega)] | rw [if_pos (by omega)]); try rfl)
  have b1 : w1.heap[w.heap.size + 1]? = some (.cells #[.int .i64 R, .int .i64 S, .int .i64 C, .slice none 0 0] 26 (0, 0)) := (by rw [← hw1]; simp only [heap_alloc_if, World.size_alloc]; repeat (first | rw [if_pos trivial] | rw [if_neg (by omega)] | rw [if_pos (by omega)]); try rfl)
  have b2 : w1.heap[w.heap.size + 1 + 1]? = some (.map #[] 0) := (by rw [← hw1]; simp only [heap_alloc_if, World.size_alloc]; repeat (first | rw [if_pos trivial] | rw [if_neg (by omega)] | rw [if_pos (by omega)]); try rfl)
  have hz1 : w1.heap.size = w.heap.size + 1 + 1 + 1 := by rw [← hw1]; simp
  have hb1 : Below w.heap.size w w1 := by rw [← hw1]; exact (by repeat (first | with_reducible exact Below.refl _ _ | (with_reducible refine Below.drew ?_) | (with_reducible refine below_drewN ?_ _) | (with_reducible refine Below.alloc ?_ ?_ _; rotate_left; (first | omega | (simp <;> omega))) | (with_reducible refine Below.setCell ?_ ?_ _; rotate_left; (first | omega | (simp <;> omega)))))
  have hM1 : MapFn (fun n : Int => Value.int .u64 n) Value.bool w1 (w.heap.size + 1 + 1) (seenM []) := ⟨#[], 0, b2, by simp, by simp [seenM, hasN], by simp⟩
  clear hw1 b2 hmm
  have l1 := later hb1
  go_wp2_with fail
  go_loopw [14, 22] (fun _ i wr => ∃ (k : Nat) (A : Option Addr) (c : Nat) (l : List ListedE), k ≤ es.length ∧ i = .int .i64 k ∧ l = dedL owner (es.take k) ∧ Own ListedE.cells 3 64 w1.heap.size wr (.slice A l.length c) l ∧
      MapFn (fun n : Int => Value.int .u64 n) Value.bool wr (w.heap.size + 1 + 1) (seenM l) ∧ wr.heap[w.heap.size + 1]? = some (.cells #[.int .i64 R, .int .i64 S, .int .i64 C, .slice A l.length c] 26 (0, 0)) ∧ Below (w.heap.size + 1) w1 wr) (fun _ i _ => es.length - (intOf i).toNat)
  case atStart => exact ⟨0, none, 0, [], by omega, rfl, rfl, Own.nil, hM1, b1, Below.refl _ _⟩
  case round =>
    obtain ⟨k, A, c, l, hk, rfl, hld, hown, hM, hbx, hbr⟩ := hrel
    have hbw : Below w.heap.size w wr := hb1.trans (hbr.mono (by omega))
    have hzr := hbr.size
    have lr := later hbw
    have B1 := boxed hbx
    have hll : l.length ≤ k := by rw [hld]; exact ded_len
    have Hld := hide hld
    clear hld hbx
    by_cases hlt : k < es.length
    · obtain ⟨b, off, x, rfl, hbk, hx, hcells⟩ := (Hs wr).at_ hlt
      obtain ⟨f0, f1, f2, f3, f4, f5, f6, f7, f8, f9, f10, f11⟩ := StubE.facts hcells
      have HT := hide (ded_take (o := owner) hx)
      clear hcells hx
      have hlk : ∀ (u : World) [Later wr u] (n : Int), (Instr.lookup 65 (.map (some (w.heap.size + 1 + 1))) (.int .u64 n) false).run Try.prog u = .ok (.bool (hasN l n)) u := fun u i n => by
        rw [run_look keyU Try.underlying65 zeroBool (hM.later u) n]
        unfold seenM; cases hasN l n <;> rfl
      go_upto_region 6 with fail
      refine wp_name ?_
      intro wx hwx
      obtain ⟨BX, lx⟩ := box1 hwx
      clear hwx
      by_cases ho : x.owner = owner
      · cases hn : hasN l x.number
        · have ha := hide (show addN owner l x = l ++ [listedOf x] by unfold addN; rw [hn]; simp [ho])
          obtain ⟨U, hU1, hU2, hU3, hU4⟩ := run_store keyU Try.underlying65 hM
          have hF := hide (hU2 wx x.number true)
          clear hU2
          go_upto_region 8 with fail
          refine wp_name ?_
          intro wy hwy
          have hne : (Value.slice A l.length c).ownBlock ≠ some (w.heap.size + 1 + 1) := fun e => by have := (World.ownsRow.lt hown _ e).1; omega
          have M1 : MapFn (fun n : Int => Value.int .u64 n) Value.bool wy (w.heap.size + 1 + 1) (seenM (l ++ [listedOf x])) := by rw [← hwy, ← seen_snoc (y := listedOf x)]; exact hF.out
          have ly := later_putAt (W := w) (g := w.heap.size + 1 + 1) (by omega) hwy
          have B2 := boxed_putAt B1 (g := w.heap.size + 1 + 1) (by omega) hwy
          have BY := boxed_putAt BX (g := w.heap.size + 1 + 1) (by omega) hwy
          have hoy : Own ListedE.cells 3 64 w1.heap.size wy (.slice A l.length c) l := by rw [← hwy]; exact (hown.later wx).putAt hne
          have hby : Below (w.heap.size + 1) w1 wy := by rw [← hwy]; exact putAt_below (hbr.trans (below_of.mono (by omega))) (by omega)
          have hzy := hby.size
          clear hwy hU1 hU3 hU4 hF hlk B1 BX hM
          go_wp2_with (at_builtin; refine wpList_app1 rfl (.tmp 41) (.tmp 49) rfl ListedE.enc listedT (listedOf x) rfl rfl rfl hoy (by rfl) (by omega) (by unfold maxLen; omega) hzy ?_; intro A' c' w2 hq hm hbq hgq hat; have B3 := boxed (show w2.heap[w.heap.size + 1]? = some (.cells #[.int .i64 R, .int .i64 S, .int .i64 C, .slice A l.length c] 26 (0, 0)) from (hbq.block _ (by omega)).trans (B2 _).1))
          go_roundw
          case rel =>
            have hq' : Own ListedE.cells 3 64 w1.heap.size w2 (.slice A' (l ++ [listedOf x]).length c') (l ++ [listedOf x]) := by rw [List.length_append, List.length_singleton]; exact hq
            refine ⟨k + 1, A', c', l ++ [listedOf x], by omega, by go_num, by rw [HT.out, ← Hld.out, ha.out], hq'.far (p := ⟨w.heap.size + 1, 3, none⟩) (fun e => absurd (World.ownsRow.lt hq' _ e).1 (by first | (simp; done) | (simp; omega) | omega)) _, M1.of_heap ((blk_far (k := w.heap.size + 1 + 1) (p := ⟨w.heap.size + 1, 3, none⟩) (by first | (simp; done) | (simp; omega) | omega) _).trans (hbq.block _ (by omega))), ?_, Below.setCell (p := ⟨w.heap.size + 1, 3, none⟩) (hby.trans (hbq.mono (by omega))) (Nat.le_refl _) _⟩
            rw [List.length_append, List.length_singleton]
            exact (blk_set (B3 w2).1 3 _).trans (by simp)
          case measure => simp [intOf]; omega
        · have ha := hide (show addN owner l x = l by unfold addN; rw [hn]; simp)
          go_wp2_with fail
          go_roundw
          case rel => exact ⟨k + 1, A, c, l, by omega, by go_num, by rw [HT.out, ← Hld.out, ha.out], hown.later _, hM.later _, (B1 _).1, hbr.trans (below_of.mono (by omega))⟩
          case measure => simp [intOf]; omega
      · have ha := hide (show addN owner l x = l by unfold addN; simp [ho])
        go_wp2_with fail
        go_roundw
        case rel => exact ⟨k + 1, A, c, l, by omega, by go_num, by rw [HT.out, ← Hld.out, ha.out], hown.later _, hM.later _, (B1 _).1, hbr.trans (below_of.mono (by omega))⟩
        case measure => simp [intOf]; omega
    · have hk' : k = es.length := by omega
      subst hk'
      have Hl := hide (show l = dedL owner es by rw [Hld.out, List.take_length])
      have B0 := boxed (show wr.heap[w.heap.size]? = _ from (hbr.block _ (by omega)).trans b0)
      go_wp2_with (go_at_call 32; refine (sortListed A c l w1.heap.size wr hown (by omega) (by omega)).mono ?_)
      rintro r w2 ⟨rfl, l', hp, hpw, ho2, hb2, hg2⟩
      have C1 := boxed (show w2.heap[w.heap.size + 1]? = _ from (hb2.block _ (by omega)).trans (B1 _).1)
      have C0 := boxed (show w2.heap[w.heap.size]? = _ from (hb2.block _ (by omega)).trans (B0 _).1)
      go_wp2_with fail
      have r0 := blk_cell (C0 w2).1 0
      have r1 := blk_cell (C0 w2).1 1
      have r2 := blk_cell (C0 w2).1 2
      have r3 := blk_cell (C0 w2).1 3
      simp at r0 r1 r2 r3
      have hg : (Value.slice A l.length c).ownBlock ≠ some w.heap.size := fun e => absurd (World.ownsRow.lt ho2 _ e).1 (by omega)
      refine bodyPost_ret (v := .agg #[.int .i64 R, .int .i64 S, .int .i64 C, .slice A l.length c]) (by simp [results, Try.results12, go_sem, r0, r1, r2, r3]) rfl ⟨A, c, l', by rw [hp.length_eq], by rw [← Hl.out]; exact hp, hpw, ?_, ?_⟩
      · rw [hp.length_eq]
        exact ((((ho2.far (p := ⟨w.heap.size, 0, none⟩) hg _).far (p := ⟨w.heap.size, 1, none⟩) hg _).far (p := ⟨w.heap.size, 2, none⟩) hg _).far (p := ⟨w.heap.size, 3, none⟩) hg _).mono hb1.size
      · have hbe : Below w.heap.size w w2 := hbw.trans (hb2.mono (by omega))
        exact (by repeat (first | with_reducible exact hbe | with_reducible exact Below.refl _ _ | (with_reducible refine Below.drew ?_) | (with_reducible refine below_drewN ?_ _) | (with_reducible refine Below.alloc ?_ ?_ _; rotate_left; (first | omega | (simp <;> omega))) | (with_reducible refine Below.setCell ?_ ?_ _; rotate_left; (first | omega | (simp <;> omega)))))
end Go.Proofs.Ythigjlllhnajbaa
