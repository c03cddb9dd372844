/-
  The example of the chapter holds. Conditions stand in the theorem.
-/
import Derived.Test.YtjegncmkebbdfaaGreatDoorF16Ex
set_option linter.unusedSimpArgs false
set_option linter.unusedVariables false
namespace Go.Proofs.YtjegncmkebbdfaaGreatDoor
open Go.RowKit
attribute [local go_sem] Oper.semAt_some Instr.makeFunc
attribute [local simp] heap_drew
def Spec.sl {α : Type} (f : α → List Value) (s : Nat) (l : List α) : Spec := ⟨fun v u => ∃ A c, v = .slice A l.length c ∧ SlAt f s u A l, fun _ _ _ l ⟨A, c, h1, h2⟩ => ⟨A, c, h1, h2.below l.below⟩⟩
set_option maxRecDepth 100000 in
set_option maxHeartbeats 16000000 in
theorem awake_any (w : World) (h : Tab10 w) : Calls Tryz.prog 7 #[] w fun r w' => r = .returned (.bool true) ∧ Below w.heap.size w w' := by
  go_enter Tryz.func7, Tryz.ntmps7
  go_upto_region 3 with (go_at_call 17; refine (example_any _).mono ?_; rintro r w1 ⟨g, rfl, hX, hb1⟩; have l1 := later hb1)
  refine wp_name ?_
  intro w2 hw2
  have g0 : w2.heap[w1.heap.size]? = some (.cells #[sl1 g 3] 27 (0, 0)) := (by rw [← hw2]; simp only [heap_alloc_if, World.size_alloc]; repeat (first | rw [if_pos trivial] | rw [if_neg (by omega)] | rw [if_pos (by omega)]); try rfl)
  have g1 : w2.heap[w1.heap.size + 1]? = some (.cells #[.int .i64 1, .int .i64 1] 44 (0, 0)) := (by rw [← hw2]; simp only [heap_alloc_if, World.size_alloc]; repeat (first | rw [if_pos trivial] | rw [if_neg (by omega)] | rw [if_pos (by omega)]); try rfl)
  have g2 : w2.heap[w1.heap.size + 1 + 1]? = some (.cells #[.int .i64 1, .int .i64 2] 44 (0, 0)) := (by rw [← hw2]; simp only [heap_alloc_if, World.size_alloc]; repeat (first | rw [if_pos trivial] | rw [if_neg (by omega)] | rw [if_pos (by omega)]); try rfl)
  have hb2 : Below w1.heap.size w1 w2 := by rw [← hw2]; exact (by repeat (first | with_reducible exact Below.refl _ _ | (with_reducible refine Below.drew ?_) | (with_reducible refine below_drewN ?_ _) | (with_reducible refine Below.alloc ?_ ?_ _; rotate_left; (first | omega | (simp <;> omega))) | (with_reducible refine Below.setCell ?_ ?_ _; rotate_left; (first | omega | (simp <;> omega)))))
  clear hw2
  have hbw : Below w.heap.size w w2 := hb1.trans (hb2.mono hb1.size)
  have l12 : Later w1 w2 := ⟨hb2⟩
  have lw2 : Later w w2 := ⟨hbw⟩
  have HG : ∀ u, Later w2.drew u → u.cell? ⟨w1.heap.size, 0, none⟩ = some (sl1 g 3) := fun u lu => by have := blk_cell (blk_below (blk_below g0 (Below.refl _ _).drew) lu.below) 0; simpa using this
  have HI1 : ∀ u, Later w2.drew u → u.cell? ⟨w1.heap.size + 1, 0, none⟩ = some (.int .i64 1) := fun u lu => by have := blk_cell (blk_below (blk_below g1 (Below.refl _ _).drew) lu.below) 0; simpa using this
  have HI12 : ∀ u, Later w2.drew u → u.cell? ⟨w1.heap.size + 1, 1, none⟩ = some (.int .i64 1) := fun u lu => by have := blk_cell (blk_below (blk_below g1 (Below.refl _ _).drew) lu.below) 1; simpa using this
  have HI2 : ∀ u, Later w2.drew u → u.cell? ⟨w1.heap.size + 1 + 1, 0, none⟩ = some (.int .i64 1) := fun u lu => by have := blk_cell (blk_below (blk_below g2 (Below.refl _ _).drew) lu.below) 0; simpa using this
  have HI22 : ∀ u, Later w2.drew u → u.cell? ⟨w1.heap.size + 1 + 1, 1, none⟩ = some (.int .i64 2) := fun u lu => by have := blk_cell (blk_below (blk_below g2 (Below.refl _ _).drew) lu.below) 1; simpa using this
  have HX : ∀ u, Later w2.drew u → exN g u := fun u lu => exN_later (l12.trans ((show Later w2 w2.drew from inferInstance).trans lu)) hX
  have HT : ∀ u, Later w2.drew u → Tab10 u := fun u lu => by haveI := lw2.trans ((show Later w2 w2.drew from inferInstance).trans lu); exact h.later u
  clear g0 g1 g2 hX
  refine wp_region_inv (last := 28) (R := specR [.is (.agg #[sl1 g 3]), .is (.bool true), .is (.bool true), .is (.agg #[sl1 g 3]), .is (.agg #[.int .i64 1, .int .i64 1]), .blk (fun g => sl1 g 1) #[.int .i64 1, .int .i64 1] 44, .sl IDE.cells 2 [iD 1, iD 3], .is (.agg #[.int .i64 1, .int .i64 1]), .is (.agg #[.int .i64 1, .int .i64 3]), .blk (fun g => sl1 g 2) #[.int .i64 1, .int .i64 1, .int .i64 1, .int .i64 3] 44, .is (.bool true), .is (.bool true), .is (.bool true), .is (.agg #[sl1 g 3]), .is (.agg #[.int .i64 1, .int .i64 2]), .blk (fun g => sl1 g 1) #[.int .i64 1, .int .i64 2] 44, .sl IDE.cells 2 [iD 2], .is (.agg #[.int .i64 1, .int .i64 2]), .blk (fun g => sl1 g 1) #[.int .i64 1, .int .i64 2] 44, .is (.bool true), .is (.bool true), .is (.bool true), .is (.agg #[sl1 g 3]), .sl strC 1 [x1, x2, x3], .blk (fun g => sl1 g 3) #[.string (bs x1), .string (bs x2), .string (bs x3)] 9, .is (.bool true), .is (.bool true), .is (.bool true)]) (by kernel_rfl) (specR_mono _) (by kernel_rfl) (by kernel_rfl) (steps_all ?_) ?_ ?_
  · refine ⟨?_, ?_, ?_, ?_, ?_, ?_, ?_, ?_, ?_, ?_, ?_, ?_, ?_, ?_, ?_, ?_, ?_, ?_, ?_, ?_, ?_, ?_, ?_, ?_, ?_, ?_, ?_, ?_, trivial⟩
    · intro hne a u lu hN hO K hK
      (try simp only [Nat.zero_add, Nat.reduceAdd] at hN hK)
      have eo : a.tmps.getD 1 undef = _ := (hO 1 (out_get (by kernel_rfl))).trans rfl
      simp only [Array.getD_eq_getD_getElem?] at eo
      have co := HG u lu
      rw [if_pos (by rfl)]
      go_simp
      exact hK _ _ Later.refl rfl
    · intro hne a u lu hN hO K hK
      (try simp only [Nat.zero_add, Nat.reduceAdd] at hN hK)
      have eg : a.tmps.getD 7 undef = .agg #[sl1 g 3] := hN 0 (needs_get (by kernel_rfl))
      simp only [Array.getD_eq_getD_getElem?] at eg
      rw [if_pos (by rfl)]
      go_simp
      refine (exValid (HX u lu)).mono ?_
      rintro r u' ⟨rfl, hb⟩
      exact hK _ _ ⟨hb⟩ rfl
    · intro hne a u lu hN hO K hK
      (try simp only [Nat.zero_add, Nat.reduceAdd] at hN hK)
      have et0 : a.tmps.getD 8 undef = .bool true := hN 1 (needs_get (by kernel_rfl))
      simp only [Array.getD_eq_getD_getElem?] at et0
      rw [if_pos (by rfl)]
      go_simp
      exact hK _ _ Later.refl rfl
    · intro hne a u lu hN hO K hK
      (try simp only [Nat.zero_add, Nat.reduceAdd] at hN hK)
      have eo : a.tmps.getD 1 undef = _ := (hO 1 (out_get (by kernel_rfl))).trans rfl
      simp only [Array.getD_eq_getD_getElem?] at eo
      have co := HG u lu
      rw [if_pos (wanted_guard (j := 2) (d := 9) (b := true) rfl (by kernel_rfl) (hN 2 (needs_get (by kernel_rfl))))]
      go_simp
      exact hK _ _ Later.refl rfl
    · intro hne a u lu hN hO K hK
      (try simp only [Nat.zero_add, Nat.reduceAdd] at hN hK)
      have eo : a.tmps.getD 2 undef = _ := (hO 2 (out_get (by kernel_rfl))).trans rfl
      simp only [Array.getD_eq_getD_getElem?] at eo
      have co := HI1 u lu
      have co2 := HI12 u lu
      rw [if_pos (wanted_guard (j := 2) (d := 9) (b := true) rfl (by kernel_rfl) (hN 2 (needs_get (by kernel_rfl))))]
      go_simp
      exact hK _ _ Later.refl rfl
    · intro hne a u lu hN hO K hK
      (try simp only [Nat.zero_add, Nat.reduceAdd] at hN hK)
      have ed0 : a.tmps.getD 11 undef = .agg #[.int .i64 1, .int .i64 1] := hN 4 (needs_get (by kernel_rfl))
      simp only [Array.getD_eq_getD_getElem?] at ed0
      rw [if_pos (wanted_guard (j := 2) (d := 9) (b := true) rfl (by kernel_rfl) (hN 2 (needs_get (by kernel_rfl))))]
      go_simp
      exact hK _ _ inferInstance ⟨u.heap.size, rfl, heap_alloc_new _ _⟩
    · intro hne a u lu hN hO K hK
      (try simp only [Nat.zero_add, Nat.reduceAdd] at hN hK)
      have eg : a.tmps.getD 10 undef = .agg #[sl1 g 3] := hN 3 (needs_get (by kernel_rfl))
      simp only [Array.getD_eq_getD_getElem?] at eg
      obtain ⟨gx, ex, hx⟩ : ∃ g, a.tmps.getD 12 undef = sl1 g 1 ∧ u.heap[g]? = some (.cells #[.int .i64 1, .int .i64 1] 44 (0, 0)) := hN 5 (needs_get (by kernel_rfl))
      simp only [Array.getD_eq_getD_getElem?] at ex
      rw [if_pos (wanted_guard (j := 2) (d := 9) (b := true) rfl (by kernel_rfl) (hN 2 (needs_get (by kernel_rfl))))]
      go_simp
      refine (exReach (iD 1) [iD 1, iD 3] x_r1 (HX u lu) (blk_slAt IDE.enc (fr := (0, 0)) (e := 44) hx [iD 1] rfl)).mono ?_
      rintro r u' ⟨A', c', rfl, hs, hb⟩
      exact hK _ _ ⟨hb⟩ ⟨A', c', rfl, hs⟩
    · intro hne a u lu hN hO K hK
      (try simp only [Nat.zero_add, Nat.reduceAdd] at hN hK)
      have eo : a.tmps.getD 2 undef = _ := (hO 2 (out_get (by kernel_rfl))).trans rfl
      simp only [Array.getD_eq_getD_getElem?] at eo
      have co := HI1 u lu
      have co2 := HI12 u lu
      rw [if_pos (wanted_guard (j := 2) (d := 9) (b := true) rfl (by kernel_rfl) (hN 2 (needs_get (by kernel_rfl))))]
      go_simp
      exact hK _ _ Later.refl rfl
    · intro hne a u lu hN hO K hK
      (try simp only [Nat.zero_add, Nat.reduceAdd] at hN hK)
      rw [if_pos (wanted_guard (j := 2) (d := 9) (b := true) rfl (by kernel_rfl) (hN 2 (needs_get (by kernel_rfl))))]
      go_simp
      exact hK _ _ Later.refl rfl
    · intro hne a u lu hN hO K hK
      (try simp only [Nat.zero_add, Nat.reduceAdd] at hN hK)
      have ed0 : a.tmps.getD 14 undef = .agg #[.int .i64 1, .int .i64 1] := hN 7 (needs_get (by kernel_rfl))
      simp only [Array.getD_eq_getD_getElem?] at ed0
      have ed1 : a.tmps.getD 15 undef = .agg #[.int .i64 1, .int .i64 3] := hN 8 (needs_get (by kernel_rfl))
      simp only [Array.getD_eq_getD_getElem?] at ed1
      rw [if_pos (wanted_guard (j := 2) (d := 9) (b := true) rfl (by kernel_rfl) (hN 2 (needs_get (by kernel_rfl))))]
      go_simp
      exact hK _ _ inferInstance ⟨u.heap.size, rfl, heap_alloc_new _ _⟩
    · intro hne a u lu hN hO K hK
      (try simp only [Nat.zero_add, Nat.reduceAdd] at hN hK)
      obtain ⟨Ap, cp, ep, Sp⟩ : ∃ A c, a.tmps.getD 13 undef = .slice A 2 c ∧ SlAt IDE.cells 2 u A [iD 1, iD 3] := hN 6 (needs_get (by kernel_rfl))
      simp only [Array.getD_eq_getD_getElem?] at ep
      obtain ⟨gq, eq, hq⟩ : ∃ g, a.tmps.getD 16 undef = sl1 g 2 ∧ u.heap[g]? = some (.cells #[.int .i64 1, .int .i64 1, .int .i64 1, .int .i64 3] 44 (0, 0)) := hN 9 (needs_get (by kernel_rfl))
      simp only [Array.getD_eq_getD_getElem?] at eq
      rw [if_pos (wanted_guard (j := 2) (d := 9) (b := true) rfl (by kernel_rfl) (hN 2 (needs_get (by kernel_rfl))))]
      go_simp
      refine (exSame Sp (blk_slAt IDE.enc (fr := (0, 0)) (e := 44) hq [iD 1, iD 3] rfl) rfl (by simp)).mono ?_
      rintro r u' ⟨rfl, hb⟩
      exact hK _ _ ⟨hb⟩ rfl
    · intro hne a u lu hN hO K hK
      (try simp only [Nat.zero_add, Nat.reduceAdd] at hN hK)
      have et0 : a.tmps.getD 9 undef = .bool true := hN 2 (needs_get (by kernel_rfl))
      simp only [Array.getD_eq_getD_getElem?] at et0
      have et1 : a.tmps.getD 17 undef = .bool true := hN 10 (needs_get (by kernel_rfl))
      simp only [Array.getD_eq_getD_getElem?] at et1
      rw [if_pos (by rfl)]
      go_simp
      exact hK _ _ Later.refl rfl
    · intro hne a u lu hN hO K hK
      (try simp only [Nat.zero_add, Nat.reduceAdd] at hN hK)
      have et0 : a.tmps.getD 18 undef = .bool true := hN 11 (needs_get (by kernel_rfl))
      simp only [Array.getD_eq_getD_getElem?] at et0
      rw [if_pos (by rfl)]
      go_simp
      exact hK _ _ Later.refl rfl
    · intro hne a u lu hN hO K hK
      (try simp only [Nat.zero_add, Nat.reduceAdd] at hN hK)
      have eo : a.tmps.getD 1 undef = _ := (hO 1 (out_get (by kernel_rfl))).trans rfl
      simp only [Array.getD_eq_getD_getElem?] at eo
      have co := HG u lu
      rw [if_pos (wanted_guard (j := 12) (d := 19) (b := true) rfl (by kernel_rfl) (hN 12 (needs_get (by kernel_rfl))))]
      go_simp
      exact hK _ _ Later.refl rfl
    · intro hne a u lu hN hO K hK
      (try simp only [Nat.zero_add, Nat.reduceAdd] at hN hK)
      have eo : a.tmps.getD 3 undef = _ := (hO 3 (out_get (by kernel_rfl))).trans rfl
      simp only [Array.getD_eq_getD_getElem?] at eo
      have co := HI2 u lu
      have co2 := HI22 u lu
      rw [if_pos (wanted_guard (j := 12) (d := 19) (b := true) rfl (by kernel_rfl) (hN 12 (needs_get (by kernel_rfl))))]
      go_simp
      exact hK _ _ Later.refl rfl
    · intro hne a u lu hN hO K hK
      (try simp only [Nat.zero_add, Nat.reduceAdd] at hN hK)
      have ed0 : a.tmps.getD 21 undef = .agg #[.int .i64 1, .int .i64 2] := hN 14 (needs_get (by kernel_rfl))
      simp only [Array.getD_eq_getD_getElem?] at ed0
      rw [if_pos (wanted_guard (j := 12) (d := 19) (b := true) rfl (by kernel_rfl) (hN 12 (needs_get (by kernel_rfl))))]
      go_simp
      exact hK _ _ inferInstance ⟨u.heap.size, rfl, heap_alloc_new _ _⟩
    · intro hne a u lu hN hO K hK
      (try simp only [Nat.zero_add, Nat.reduceAdd] at hN hK)
      have eg : a.tmps.getD 20 undef = .agg #[sl1 g 3] := hN 13 (needs_get (by kernel_rfl))
      simp only [Array.getD_eq_getD_getElem?] at eg
      obtain ⟨gx, ex, hx⟩ : ∃ g, a.tmps.getD 22 undef = sl1 g 1 ∧ u.heap[g]? = some (.cells #[.int .i64 1, .int .i64 2] 44 (0, 0)) := hN 15 (needs_get (by kernel_rfl))
      simp only [Array.getD_eq_getD_getElem?] at ex
      rw [if_pos (wanted_guard (j := 12) (d := 19) (b := true) rfl (by kernel_rfl) (hN 12 (needs_get (by kernel_rfl))))]
      go_simp
      refine (exReach (iD 2) [iD 2] x_r2 (HX u lu) (blk_slAt IDE.enc (fr := (0, 0)) (e := 44) hx [iD 2] rfl)).mono ?_
      rintro r u' ⟨A', c', rfl, hs, hb⟩
      exact hK _ _ ⟨hb⟩ ⟨A', c', rfl, hs⟩
    · intro hne a u lu hN hO K hK
      (try simp only [Nat.zero_add, Nat.reduceAdd] at hN hK)
      have eo : a.tmps.getD 3 undef = _ := (hO 3 (out_get (by kernel_rfl))).trans rfl
      simp only [Array.getD_eq_getD_getElem?] at eo
      have co := HI2 u lu
      have co2 := HI22 u lu
      rw [if_pos (wanted_guard (j := 12) (d := 19) (b := true) rfl (by kernel_rfl) (hN 12 (needs_get (by kernel_rfl))))]
      go_simp
      exact hK _ _ Later.refl rfl
    · intro hne a u lu hN hO K hK
      (try simp only [Nat.zero_add, Nat.reduceAdd] at hN hK)
      have ed0 : a.tmps.getD 24 undef = .agg #[.int .i64 1, .int .i64 2] := hN 17 (needs_get (by kernel_rfl))
      simp only [Array.getD_eq_getD_getElem?] at ed0
      rw [if_pos (wanted_guard (j := 12) (d := 19) (b := true) rfl (by kernel_rfl) (hN 12 (needs_get (by kernel_rfl))))]
      go_simp
      exact hK _ _ inferInstance ⟨u.heap.size, rfl, heap_alloc_new _ _⟩
    · intro hne a u lu hN hO K hK
      (try simp only [Nat.zero_add, Nat.reduceAdd] at hN hK)
      obtain ⟨Ap, cp, ep, Sp⟩ : ∃ A c, a.tmps.getD 23 undef = .slice A 1 c ∧ SlAt IDE.cells 2 u A [iD 2] := hN 16 (needs_get (by kernel_rfl))
      simp only [Array.getD_eq_getD_getElem?] at ep
      obtain ⟨gq, eq, hq⟩ : ∃ g, a.tmps.getD 25 undef = sl1 g 1 ∧ u.heap[g]? = some (.cells #[.int .i64 1, .int .i64 2] 44 (0, 0)) := hN 18 (needs_get (by kernel_rfl))
      simp only [Array.getD_eq_getD_getElem?] at eq
      rw [if_pos (wanted_guard (j := 12) (d := 19) (b := true) rfl (by kernel_rfl) (hN 12 (needs_get (by kernel_rfl))))]
      go_simp
      refine (exSame Sp (blk_slAt IDE.enc (fr := (0, 0)) (e := 44) hq [iD 2] rfl) rfl (by simp)).mono ?_
      rintro r u' ⟨rfl, hb⟩
      exact hK _ _ ⟨hb⟩ rfl
    · intro hne a u lu hN hO K hK
      (try simp only [Nat.zero_add, Nat.reduceAdd] at hN hK)
      have et0 : a.tmps.getD 19 undef = .bool true := hN 12 (needs_get (by kernel_rfl))
      simp only [Array.getD_eq_getD_getElem?] at et0
      have et1 : a.tmps.getD 26 undef = .bool true := hN 19 (needs_get (by kernel_rfl))
      simp only [Array.getD_eq_getD_getElem?] at et1
      rw [if_pos (by rfl)]
      go_simp
      exact hK _ _ Later.refl rfl
    · intro hne a u lu hN hO K hK
      (try simp only [Nat.zero_add, Nat.reduceAdd] at hN hK)
      have et0 : a.tmps.getD 27 undef = .bool true := hN 20 (needs_get (by kernel_rfl))
      simp only [Array.getD_eq_getD_getElem?] at et0
      rw [if_pos (by rfl)]
      go_simp
      exact hK _ _ Later.refl rfl
    · intro hne a u lu hN hO K hK
      (try simp only [Nat.zero_add, Nat.reduceAdd] at hN hK)
      have eo : a.tmps.getD 1 undef = _ := (hO 1 (out_get (by kernel_rfl))).trans rfl
      simp only [Array.getD_eq_getD_getElem?] at eo
      have co := HG u lu
      rw [if_pos (wanted_guard (j := 21) (d := 28) (b := true) rfl (by kernel_rfl) (hN 21 (needs_get (by kernel_rfl))))]
      go_simp
      exact hK _ _ Later.refl rfl
    · intro hne a u lu hN hO K hK
      (try simp only [Nat.zero_add, Nat.reduceAdd] at hN hK)
      have eg : a.tmps.getD 29 undef = .agg #[sl1 g 3] := hN 22 (needs_get (by kernel_rfl))
      simp only [Array.getD_eq_getD_getElem?] at eg
      rw [if_pos (wanted_guard (j := 21) (d := 28) (b := true) rfl (by kernel_rfl) (hN 21 (needs_get (by kernel_rfl))))]
      go_simp
      refine (exFmt (HT u lu) (HX u lu)).mono ?_
      rintro r u' ⟨A', c', rfl, hs, hb⟩
      exact hK _ _ ⟨hb⟩ ⟨A', c', rfl, hs⟩
    · intro hne a u lu hN hO K hK
      (try simp only [Nat.zero_add, Nat.reduceAdd] at hN hK)
      rw [if_pos (wanted_guard (j := 21) (d := 28) (b := true) rfl (by kernel_rfl) (hN 21 (needs_get (by kernel_rfl))))]
      go_simp
      exact hK _ _ inferInstance ⟨u.heap.size, rfl, heap_alloc_new _ _⟩
    · intro hne a u lu hN hO K hK
      (try simp only [Nat.zero_add, Nat.reduceAdd] at hN hK)
      obtain ⟨Ap, cp, ep, Sp⟩ : ∃ A c, a.tmps.getD 30 undef = .slice A 3 c ∧ SlAt strC 1 u A [x1, x2, x3] := hN 23 (needs_get (by kernel_rfl))
      simp only [Array.getD_eq_getD_getElem?] at ep
      obtain ⟨gq, eq, hq⟩ : ∃ g, a.tmps.getD 31 undef = sl1 g 3 ∧ u.heap[g]? = some (.cells #[.string (bs x1), .string (bs x2), .string (bs x3)] 9 (0, 0)) := hN 24 (needs_get (by kernel_rfl))
      simp only [Array.getD_eq_getD_getElem?] at eq
      rw [if_pos (wanted_guard (j := 21) (d := 28) (b := true) rfl (by kernel_rfl) (hN 21 (needs_get (by kernel_rfl))))]
      go_simp
      refine (exLines (l := [x1, x2, x3]) Sp (blk_slAt strC.enc (fr := (0, 0)) (e := 9) hq [x1, x2, x3] rfl) (by simp)).mono ?_
      rintro r u' ⟨rfl, hb⟩
      exact hK _ _ ⟨hb⟩ rfl
    · intro hne a u lu hN hO K hK
      (try simp only [Nat.zero_add, Nat.reduceAdd] at hN hK)
      have et0 : a.tmps.getD 28 undef = .bool true := hN 21 (needs_get (by kernel_rfl))
      simp only [Array.getD_eq_getD_getElem?] at et0
      have et1 : a.tmps.getD 32 undef = .bool true := hN 25 (needs_get (by kernel_rfl))
      simp only [Array.getD_eq_getD_getElem?] at et1
      rw [if_pos (by rfl)]
      go_simp
      exact hK _ _ Later.refl rfl
    · intro hne a u lu hN hO K hK
      (try simp only [Nat.zero_add, Nat.reduceAdd] at hN hK)
      have et0 : a.tmps.getD 33 undef = .bool true := hN 26 (needs_get (by kernel_rfl))
      simp only [Array.getD_eq_getD_getElem?] at et0
      rw [if_pos (by rfl)]
      go_simp
      exact hK _ _ Later.refl rfl
  · intro o ho; cases ho
  · intro _ a7 w7 hI7
    have e0 : a7.tmps.getD 0 undef = .bool true := hI7.got 27 (by decide) rfl
    have hd7 : a7.defers = [] := hI7.defers.trans rfl
    have l67 : Later w2 w7 := (show Later w2 w2.drew from inferInstance).trans hI7.later
    go_wp2_with fail
    refine bodyPost_ret (results_tmp rfl _ _ _) hd7 ⟨by rw [e0], hbw.trans (l67.below.mono hbw.size)⟩
end Go.Proofs.YtjegncmkebbdfaaGreatDoor
