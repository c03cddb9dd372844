/-
  The example of the chapter holds. No condition.
-/
import Derived.Test.YtffnogjgnpbjlaaGrp9
set_option linter.unusedSimpArgs false
set_option linter.unusedVariables false
namespace Go.Proofs.Ytffnogjgnpbjlaa
open Go.RowKit
attribute [local go_sem] Oper.semAt_some Instr.makeFunc
attribute [local simp] heap_drew
set_option maxRecDepth 100000 in
set_option maxHeartbeats 16000000 in
theorem awake_any (w : World) : Calls Try.prog 10 #[] w fun r w' => r = .returned (.bool true) ∧ Below w.heap.size w w' := by
  go_enter Try.func10, Try.ntmps10
  go_upto_region 3 with fail
  refine wp_name ?_
  intro w1 hw1
  obtain ⟨B0, l1⟩ := box1 hw1
  clear hw1
  have hb0 := (B0 w1).1
  have hw1z : Below w.heap.size w w1 := (l1 w).below
  have hz1 : w.heap.size < w1.heap.size := boxed_lt B0
  have HB : ∀ u, Later w1.drew u → u.heap[w.heap.size]? = some (.cells #[fvId] 60 (0, 0)) := fun u lu => blk_below (blk_below hb0 (Below.refl _ _).drew) lu.below
  have HC : ∀ u, Later w1.drew u → u.cell? ⟨w.heap.size, 0, none⟩ = some fvId := fun u lu => by have := blk_cell (HB u lu) 0; simpa using this
  refine wp_region_inv (last := 32) (R := specR [.is fvId, .is (vId 1), .is (fvRef w.heap.size), .is (vRef 2), .is (fvRef w.heap.size), .is (vRef 3), .blk (fun g => sl1 g 2) (cRef2 2 3) 62, .blk (fun g => vNode 1 (sl1 g 2)) (cRef2 2 3) 62, .is fvId, .is (vId 2), .is (fvRef w.heap.size), .is (vRef 4), .blk (fun g => sl1 g 1) (cRef1 4) 62, .blk (fun g => vNode 2 (sl1 g 1)) (cRef1 4) 62, .is fvId, .is (vId 3), .is (fvRef w.heap.size), .is (vRef 4), .blk (fun g => sl1 g 1) (cRef1 4) 62, .blk (fun g => vNode 3 (sl1 g 1)) (cRef1 4) 62, .is fvId, .is (vId 4), .is (fvRef w.heap.size), .is (vRef 5), .blk (fun g => sl1 g 1) (cRef1 5) 62, .blk (fun g => vNode 4 (sl1 g 1)) (cRef1 5) 62, .is fvId, .is (vId 5), .is (vNode 5 (.slice none 0 0)), .nodes (fun g => sl1 g 5), .nodes (fun g => .agg #[sl1 g 5]), .blkN w1.heap.size (fun g => .pointer (some ⟨g, 0, none⟩)) #[.slice none 0 0] 24]) (by kernel_rfl) (specR_mono _) (by kernel_rfl) (by kernel_rfl) (steps_all ?_) ?_ ?_
  · refine ⟨?_, ?_, ?_, ?_, ?_, ?_, ?_, ?_, ?_, ?_, ?_, ?_, ?_, ?_, ?_, ?_, ?_, ?_, ?_, ?_, ?_, ?_, ?_, ?_, ?_, ?_, ?_, ?_, ?_, ?_, ?_, ?_, ?_, trivial⟩
    · intro hne a u lu hN hO K hK
      (try simp only [Nat.zero_add, Nat.reduceAdd] at hN hK)
      have e1 : a.tmps.getD 1 undef = .pointer (some ⟨w.heap.size, 0, none⟩) := (hO 1 (out_get (by kernel_rfl))).trans rfl
      simp only [Array.getD_eq_getD_getElem?] at e1
      have c1 := HC u lu
      rw [if_pos (by rfl)]
      go_simp
      exact hK _ _ Later.refl rfl
    · intro hne a u lu hN hO K hK
      (try simp only [Nat.zero_add, Nat.reduceAdd] at hN hK)
      have ed : a.tmps.getD 9 undef = fvId := hN 0 (needs_get (by kernel_rfl))
      simp only [Array.getD_eq_getD_getElem?] at ed
      rw [if_pos (by rfl)]
      go_simp
      refine (awId_any 1 u).mono ?_
      rintro r u' ⟨rfl, hb⟩
      exact hK _ _ ⟨hb⟩ rfl
    · intro hne a u lu hN hO K hK
      (try simp only [Nat.zero_add, Nat.reduceAdd] at hN hK)
      have e2 : a.tmps.getD 2 undef = fvRef w.heap.size := (hO 2 (out_get (by kernel_rfl))).trans rfl
      simp only [Array.getD_eq_getD_getElem?] at e2
      rw [if_pos (by rfl)]
      go_simp
      exact hK _ _ Later.refl rfl
    · intro hne a u lu hN hO K hK
      (try simp only [Nat.zero_add, Nat.reduceAdd] at hN hK)
      have ed : a.tmps.getD 11 undef = fvRef w.heap.size := hN 2 (needs_get (by kernel_rfl))
      simp only [Array.getD_eq_getD_getElem?] at ed
      rw [if_pos (by rfl)]
      go_simp
      refine (awRef_any 2 w.heap.size u (HB u lu)).mono ?_
      rintro r u' ⟨rfl, hb⟩
      exact hK _ _ ⟨hb⟩ rfl
    · intro hne a u lu hN hO K hK
      (try simp only [Nat.zero_add, Nat.reduceAdd] at hN hK)
      have e2 : a.tmps.getD 2 undef = fvRef w.heap.size := (hO 2 (out_get (by kernel_rfl))).trans rfl
      simp only [Array.getD_eq_getD_getElem?] at e2
      rw [if_pos (by rfl)]
      go_simp
      exact hK _ _ Later.refl rfl
    · intro hne a u lu hN hO K hK
      (try simp only [Nat.zero_add, Nat.reduceAdd] at hN hK)
      have ed : a.tmps.getD 13 undef = fvRef w.heap.size := hN 4 (needs_get (by kernel_rfl))
      simp only [Array.getD_eq_getD_getElem?] at ed
      rw [if_pos (by rfl)]
      go_simp
      refine (awRef_any 3 w.heap.size u (HB u lu)).mono ?_
      rintro r u' ⟨rfl, hb⟩
      exact hK _ _ ⟨hb⟩ rfl
    · intro hne a u lu hN hO K hK
      (try simp only [Nat.zero_add, Nat.reduceAdd] at hN hK)
      have ed : a.tmps.getD 12 undef = vRef 2 := hN 3 (needs_get (by kernel_rfl))
      simp only [Array.getD_eq_getD_getElem?] at ed
      have ed2 : a.tmps.getD 14 undef = vRef 3 := hN 5 (needs_get (by kernel_rfl))
      simp only [Array.getD_eq_getD_getElem?] at ed2
      rw [if_pos (by rfl)]
      go_simp
      exact hK _ _ inferInstance ⟨u.heap.size, rfl, heap_alloc_new _ _⟩
    · intro hne a u lu hN hO K hK
      (try simp only [Nat.zero_add, Nat.reduceAdd] at hN hK)
      have ed : a.tmps.getD 10 undef = vId 1 := hN 1 (needs_get (by kernel_rfl))
      simp only [Array.getD_eq_getD_getElem?] at ed
      obtain ⟨g, eg, hg⟩ : ∃ g, a.tmps.getD 15 undef = sl1 g 2 ∧ u.heap[g]? = some (.cells (cRef2 2 3) 62 (0, 0)) := hN 6 (needs_get (by kernel_rfl))
      simp only [Array.getD_eq_getD_getElem?] at eg
      rw [if_pos (by rfl)]
      go_simp
      exact hK _ _ Later.refl ⟨g, rfl, hg⟩
    · intro hne a u lu hN hO K hK
      (try simp only [Nat.zero_add, Nat.reduceAdd] at hN hK)
      have e1 : a.tmps.getD 1 undef = .pointer (some ⟨w.heap.size, 0, none⟩) := (hO 1 (out_get (by kernel_rfl))).trans rfl
      simp only [Array.getD_eq_getD_getElem?] at e1
      have c1 := HC u lu
      rw [if_pos (by rfl)]
      go_simp
      exact hK _ _ Later.refl rfl
    · intro hne a u lu hN hO K hK
      (try simp only [Nat.zero_add, Nat.reduceAdd] at hN hK)
      have ed : a.tmps.getD 17 undef = fvId := hN 8 (needs_get (by kernel_rfl))
      simp only [Array.getD_eq_getD_getElem?] at ed
      rw [if_pos (by rfl)]
      go_simp
      refine (awId_any 2 u).mono ?_
      rintro r u' ⟨rfl, hb⟩
      exact hK _ _ ⟨hb⟩ rfl
    · intro hne a u lu hN hO K hK
      (try simp only [Nat.zero_add, Nat.reduceAdd] at hN hK)
      have e2 : a.tmps.getD 2 undef = fvRef w.heap.size := (hO 2 (out_get (by kernel_rfl))).trans rfl
      simp only [Array.getD_eq_getD_getElem?] at e2
      rw [if_pos (by rfl)]
      go_simp
      exact hK _ _ Later.refl rfl
    · intro hne a u lu hN hO K hK
      (try simp only [Nat.zero_add, Nat.reduceAdd] at hN hK)
      have ed : a.tmps.getD 19 undef = fvRef w.heap.size := hN 10 (needs_get (by kernel_rfl))
      simp only [Array.getD_eq_getD_getElem?] at ed
      rw [if_pos (by rfl)]
      go_simp
      refine (awRef_any 4 w.heap.size u (HB u lu)).mono ?_
      rintro r u' ⟨rfl, hb⟩
      exact hK _ _ ⟨hb⟩ rfl
    · intro hne a u lu hN hO K hK
      (try simp only [Nat.zero_add, Nat.reduceAdd] at hN hK)
      have ed : a.tmps.getD 20 undef = vRef 4 := hN 11 (needs_get (by kernel_rfl))
      simp only [Array.getD_eq_getD_getElem?] at ed
      rw [if_pos (by rfl)]
      go_simp
      exact hK _ _ inferInstance ⟨u.heap.size, rfl, heap_alloc_new _ _⟩
    · intro hne a u lu hN hO K hK
      (try simp only [Nat.zero_add, Nat.reduceAdd] at hN hK)
      have ed : a.tmps.getD 18 undef = vId 2 := hN 9 (needs_get (by kernel_rfl))
      simp only [Array.getD_eq_getD_getElem?] at ed
      obtain ⟨g, eg, hg⟩ : ∃ g, a.tmps.getD 21 undef = sl1 g 1 ∧ u.heap[g]? = some (.cells (cRef1 4) 62 (0, 0)) := hN 12 (needs_get (by kernel_rfl))
      simp only [Array.getD_eq_getD_getElem?] at eg
      rw [if_pos (by rfl)]
      go_simp
      exact hK _ _ Later.refl ⟨g, rfl, hg⟩
    · intro hne a u lu hN hO K hK
      (try simp only [Nat.zero_add, Nat.reduceAdd] at hN hK)
      have e1 : a.tmps.getD 1 undef = .pointer (some ⟨w.heap.size, 0, none⟩) := (hO 1 (out_get (by kernel_rfl))).trans rfl
      simp only [Array.getD_eq_getD_getElem?] at e1
      have c1 := HC u lu
      rw [if_pos (by rfl)]
      go_simp
      exact hK _ _ Later.refl rfl
    · intro hne a u lu hN hO K hK
      (try simp only [Nat.zero_add, Nat.reduceAdd] at hN hK)
      have ed : a.tmps.getD 23 undef = fvId := hN 14 (needs_get (by kernel_rfl))
      simp only [Array.getD_eq_getD_getElem?] at ed
      rw [if_pos (by rfl)]
      go_simp
      refine (awId_any 3 u).mono ?_
      rintro r u' ⟨rfl, hb⟩
      exact hK _ _ ⟨hb⟩ rfl
    · intro hne a u lu hN hO K hK
      (try simp only [Nat.zero_add, Nat.reduceAdd] at hN hK)
      have e2 : a.tmps.getD 2 undef = fvRef w.heap.size := (hO 2 (out_get (by kernel_rfl))).trans rfl
      simp only [Array.getD_eq_getD_getElem?] at e2
      rw [if_pos (by rfl)]
      go_simp
      exact hK _ _ Later.refl rfl
    · intro hne a u lu hN hO K hK
      (try simp only [Nat.zero_add, Nat.reduceAdd] at hN hK)
      have ed : a.tmps.getD 25 undef = fvRef w.heap.size := hN 16 (needs_get (by kernel_rfl))
      simp only [Array.getD_eq_getD_getElem?] at ed
      rw [if_pos (by rfl)]
      go_simp
      refine (awRef_any 4 w.heap.size u (HB u lu)).mono ?_
      rintro r u' ⟨rfl, hb⟩
      exact hK _ _ ⟨hb⟩ rfl
    · intro hne a u lu hN hO K hK
      (try simp only [Nat.zero_add, Nat.reduceAdd] at hN hK)
      have ed : a.tmps.getD 26 undef = vRef 4 := hN 17 (needs_get (by kernel_rfl))
      simp only [Array.getD_eq_getD_getElem?] at ed
      rw [if_pos (by rfl)]
      go_simp
      exact hK _ _ inferInstance ⟨u.heap.size, rfl, heap_alloc_new _ _⟩
    · intro hne a u lu hN hO K hK
      (try simp only [Nat.zero_add, Nat.reduceAdd] at hN hK)
      have ed : a.tmps.getD 24 undef = vId 3 := hN 15 (needs_get (by kernel_rfl))
      simp only [Array.getD_eq_getD_getElem?] at ed
      obtain ⟨g, eg, hg⟩ : ∃ g, a.tmps.getD 27 undef = sl1 g 1 ∧ u.heap[g]? = some (.cells (cRef1 4) 62 (0, 0)) := hN 18 (needs_get (by kernel_rfl))
      simp only [Array.getD_eq_getD_getElem?] at eg
      rw [if_pos (by rfl)]
      go_simp
      exact hK _ _ Later.refl ⟨g, rfl, hg⟩
    · intro hne a u lu hN hO K hK
      (try simp only [Nat.zero_add, Nat.reduceAdd] at hN hK)
      have e1 : a.tmps.getD 1 undef = .pointer (some ⟨w.heap.size, 0, none⟩) := (hO 1 (out_get (by kernel_rfl))).trans rfl
      simp only [Array.getD_eq_getD_getElem?] at e1
      have c1 := HC u lu
      rw [if_pos (by rfl)]
      go_simp
      exact hK _ _ Later.refl rfl
    · intro hne a u lu hN hO K hK
      (try simp only [Nat.zero_add, Nat.reduceAdd] at hN hK)
      have ed : a.tmps.getD 29 undef = fvId := hN 20 (needs_get (by kernel_rfl))
      simp only [Array.getD_eq_getD_getElem?] at ed
      rw [if_pos (by rfl)]
      go_simp
      refine (awId_any 4 u).mono ?_
      rintro r u' ⟨rfl, hb⟩
      exact hK _ _ ⟨hb⟩ rfl
    · intro hne a u lu hN hO K hK
      (try simp only [Nat.zero_add, Nat.reduceAdd] at hN hK)
      have e2 : a.tmps.getD 2 undef = fvRef w.heap.size := (hO 2 (out_get (by kernel_rfl))).trans rfl
      simp only [Array.getD_eq_getD_getElem?] at e2
      rw [if_pos (by rfl)]
      go_simp
      exact hK _ _ Later.refl rfl
    · intro hne a u lu hN hO K hK
      (try simp only [Nat.zero_add, Nat.reduceAdd] at hN hK)
      have ed : a.tmps.getD 31 undef = fvRef w.heap.size := hN 22 (needs_get (by kernel_rfl))
      simp only [Array.getD_eq_getD_getElem?] at ed
      rw [if_pos (by rfl)]
      go_simp
      refine (awRef_any 5 w.heap.size u (HB u lu)).mono ?_
      rintro r u' ⟨rfl, hb⟩
      exact hK _ _ ⟨hb⟩ rfl
    · intro hne a u lu hN hO K hK
      (try simp only [Nat.zero_add, Nat.reduceAdd] at hN hK)
      have ed : a.tmps.getD 32 undef = vRef 5 := hN 23 (needs_get (by kernel_rfl))
      simp only [Array.getD_eq_getD_getElem?] at ed
      rw [if_pos (by rfl)]
      go_simp
      exact hK _ _ inferInstance ⟨u.heap.size, rfl, heap_alloc_new _ _⟩
    · intro hne a u lu hN hO K hK
      (try simp only [Nat.zero_add, Nat.reduceAdd] at hN hK)
      have ed : a.tmps.getD 30 undef = vId 4 := hN 21 (needs_get (by kernel_rfl))
      simp only [Array.getD_eq_getD_getElem?] at ed
      obtain ⟨g, eg, hg⟩ : ∃ g, a.tmps.getD 33 undef = sl1 g 1 ∧ u.heap[g]? = some (.cells (cRef1 5) 62 (0, 0)) := hN 24 (needs_get (by kernel_rfl))
      simp only [Array.getD_eq_getD_getElem?] at eg
      rw [if_pos (by rfl)]
      go_simp
      exact hK _ _ Later.refl ⟨g, rfl, hg⟩
    · intro hne a u lu hN hO K hK
      (try simp only [Nat.zero_add, Nat.reduceAdd] at hN hK)
      have e1 : a.tmps.getD 1 undef = .pointer (some ⟨w.heap.size, 0, none⟩) := (hO 1 (out_get (by kernel_rfl))).trans rfl
      simp only [Array.getD_eq_getD_getElem?] at e1
      have c1 := HC u lu
      rw [if_pos (by rfl)]
      go_simp
      exact hK _ _ Later.refl rfl
    · intro hne a u lu hN hO K hK
      (try simp only [Nat.zero_add, Nat.reduceAdd] at hN hK)
      have ed : a.tmps.getD 35 undef = fvId := hN 26 (needs_get (by kernel_rfl))
      simp only [Array.getD_eq_getD_getElem?] at ed
      rw [if_pos (by rfl)]
      go_simp
      refine (awId_any 5 u).mono ?_
      rintro r u' ⟨rfl, hb⟩
      exact hK _ _ ⟨hb⟩ rfl
    · intro hne a u lu hN hO K hK
      (try simp only [Nat.zero_add, Nat.reduceAdd] at hN hK)
      have ed : a.tmps.getD 36 undef = vId 5 := hN 27 (needs_get (by kernel_rfl))
      simp only [Array.getD_eq_getD_getElem?] at ed
      rw [if_pos (by rfl)]
      go_simp
      exact hK _ _ Later.refl rfl
    · intro hne a u lu hN hO K hK
      (try simp only [Nat.zero_add, Nat.reduceAdd] at hN hK)
      obtain ⟨g1, eg1, hg1⟩ : ∃ g, a.tmps.getD 16 undef = vNode 1 (sl1 g 2) ∧ u.heap[g]? = some (.cells (cRef2 2 3) 62 (0, 0)) := hN 7 (needs_get (by kernel_rfl))
      obtain ⟨g2, eg2, hg2⟩ : ∃ g, a.tmps.getD 22 undef = vNode 2 (sl1 g 1) ∧ u.heap[g]? = some (.cells (cRef1 4) 62 (0, 0)) := hN 13 (needs_get (by kernel_rfl))
      obtain ⟨g3, eg3, hg3⟩ : ∃ g, a.tmps.getD 28 undef = vNode 3 (sl1 g 1) ∧ u.heap[g]? = some (.cells (cRef1 4) 62 (0, 0)) := hN 19 (needs_get (by kernel_rfl))
      obtain ⟨g4, eg4, hg4⟩ : ∃ g, a.tmps.getD 34 undef = vNode 4 (sl1 g 1) ∧ u.heap[g]? = some (.cells (cRef1 5) 62 (0, 0)) := hN 25 (needs_get (by kernel_rfl))
      have eg5 : a.tmps.getD 37 undef = vNode 5 (.slice none 0 0) := hN 28 (needs_get (by kernel_rfl))
      simp only [Array.getD_eq_getD_getElem?] at eg1 eg2 eg3 eg4 eg5
      rw [if_pos (by rfl)]
      go_simp
      have lz : Later u (u.alloc (.cells #[.int .i64 1, .int .i64 1, .int .i64 0, .int .i64 1, sl1 g1 2, .int .i64 1, .int .i64 2, .int .i64 0, .int .i64 1, sl1 g2 1, .int .i64 1, .int .i64 3, .int .i64 0, .int .i64 1, sl1 g3 1, .int .i64 1, .int .i64 4, .int .i64 0, .int .i64 1, sl1 g4 1, .int .i64 1, .int .i64 5, .int .i64 0, .int .i64 1, .slice none 0 0] 56 (0, 0))) := inferInstance
      exact hK _ _ lz ⟨u.heap.size, rfl, g1, g2, g3, g4, blk_below hg1 lz.below, blk_below hg2 lz.below, blk_below hg3 lz.below, blk_below hg4 lz.below, heap_alloc_new _ _⟩
    · intro hne a u lu hN hO K hK
      (try simp only [Nat.zero_add, Nat.reduceAdd] at hN hK)
      obtain ⟨g, eg, hg⟩ : ∃ g, a.tmps.getD 38 undef = sl1 g 5 ∧ exB g u := hN 29 (needs_get (by kernel_rfl))
      simp only [Array.getD_eq_getD_getElem?] at eg
      rw [if_pos (by rfl)]
      go_simp
      exact hK _ _ Later.refl ⟨g, rfl, hg⟩
    · intro hne a u lu hN hO K hK
      (try simp only [Nat.zero_add, Nat.reduceAdd] at hN hK)
      have hz := lu.below.size
      rw [if_pos (by rfl)]
      go_simp
      exact hK _ _ inferInstance ⟨u.heap.size, hz, rfl, heap_alloc_new _ _⟩
    · intro hne; exact absurd rfl hne
  · intro o ho a u hI K hK
    simp only [List.getElem?_toArray, List.getElem?_cons_succ, List.getElem?_cons_zero] at ho
    injection ho with ho
    subst ho
    obtain ⟨g3, hg3w, e3, hg3⟩ : ∃ g, w1.heap.size ≤ g ∧ a.tmps.getD 3 undef = .pointer (some ⟨g, 0, none⟩) ∧ u.heap[g]? = some (.cells #[.slice none 0 0] 24 (0, 0)) := hI.got 31 (by decide) rfl
    obtain ⟨gn, e39, hn⟩ : ∃ g, a.tmps.getD 39 undef = .agg #[sl1 g 5] ∧ exB g u := hI.got 30 (by decide) rfl
    have p1 : a.tmps.getD 1 undef = .pointer (some ⟨w.heap.size, 0, none⟩) := (hI.out 1 (out_get (by kernel_rfl))).trans rfl
    have hsz := hide (show a.tmps.size = 123 from hI.size.trans rfl)
    have hdf : a.defers = [] := hI.defers.trans rfl
    have p3 := e3
    have Xg := boxed hg3
    have luu : Later u u := Later.refl
    have hbu := HB u hI.later
    have hbw : Below w.heap.size w u := (hw1z.trans (((show Later w1 w1.drew from inferInstance).trans hI.later).below.mono hw1z.size)).setCell (p := ⟨g3, 0, none⟩) (show w.heap.size ≤ g3 by omega) (sl1 gn 5) |> fun _ => hw1z.trans (((show Later w1 w1.drew from inferInstance).trans hI.later).below.mono hw1z.size)
    have hbw4 := hbw.setCell (p := ⟨g3, 0, none⟩) (show w.heap.size ≤ g3 by omega) (sl1 gn 5)
    have hn4 := exB_far (i := 0) (v := sl1 gn 5) hg3 hn
    have hg4 := blk_set hg3 0 (sl1 gn 5)
    simp only [List.setIfInBounds_toArray, List.set_cons_zero] at hg4
    have hb4 := far_type (i := 0) (v := sl1 gn 5) hbu hg3 (by decide)
    simp only [Array.getD_eq_getD_getElem?] at e3 e39
    rw [if_pos (by rfl)]
    clear hI HB HC hbu hbw
    go_simp
    refine hK _ _ ?_
    clear hK K Xg luu hg3 hn hb0 B0 l1 e3 e39
    generalize u.setCell ⟨g3, 0, none⟩ (sl1 gn 5) = w4 at hbw4 hn4 hg4 hb4 ⊢
    go_upto_region 4 with fail
    have HB : ∀ u, Later w4.drew u → u.heap[w.heap.size]? = some (.cells #[fvId] 60 (0, 0)) := fun u lu => blk_below (blk_below hb4 (Below.refl _ _).drew) lu.below
    have HC : ∀ u, Later w4.drew u → u.cell? ⟨w.heap.size, 0, none⟩ = some fvId := fun u lu => by have := blk_cell (HB u lu) 0; simpa using this
    have HX : ∀ u, Later w4.drew u → u.cell? ⟨g3, 0, none⟩ = some (sl1 gn 5) := fun u lu => by have := blk_cell (blk_below (blk_below hg4 (Below.refl _ _).drew) lu.below) 0; simpa using this
    have HN : ∀ u, Later w4.drew u → exN gn u := fun u lu => (exB_later ((show Later w4 w4.drew from inferInstance).trans lu) hn4).exN
    refine wp_region_inv (last := 10) (R := specR [.is (.agg #[sl1 gn 5]), .is fvId, .is (vId 1), .blk (fun g => sl1 g 1) #[.int .i64 1, .int .i64 1] 46, .tup (.sl IDE.cells 2 allL) (.sl IDE.cells 2 upL), .tup (.sl IDE.cells 2 allL) (.sl IDE.cells 2 upL), .sl IDE.cells 2 allL, .sl IDE.cells 2 upL, .sl IDE.cells 2 allL, .sl IDE.cells 2 upL]) (by kernel_rfl) (specR_mono _) (by show checkD _ a.tmps.size = true; rw [hsz.out]; kernel_rfl) (by kernel_rfl) (steps_all ?_) ?_ ?_
    · refine ⟨?_, ?_, ?_, ?_, ?_, ?_, ?_, ?_, ?_, ?_, trivial⟩
      · intro hne a u lu hN hO K hK
        (try simp only [Nat.zero_add, Nat.reduceAdd] at hN hK)
        have e3 : a.tmps.getD 3 undef = .pointer (some ⟨g3, 0, none⟩) := (hO 3 (out_get (by kernel_rfl))).trans p3
        simp only [Array.getD_eq_getD_getElem?] at e3
        have c3 := HX u lu
        rw [if_pos (by rfl)]
        go_simp
        exact hK _ _ Later.refl rfl
      · intro hne a u lu hN hO K hK
        (try simp only [Nat.zero_add, Nat.reduceAdd] at hN hK)
        have e1 : a.tmps.getD 1 undef = .pointer (some ⟨w.heap.size, 0, none⟩) := (hO 1 (out_get (by kernel_rfl))).trans p1
        simp only [Array.getD_eq_getD_getElem?] at e1
        have c1 := HC u lu
        rw [if_pos (by rfl)]
        go_simp
        exact hK _ _ Later.refl rfl
      · intro hne a u lu hN hO K hK
        (try simp only [Nat.zero_add, Nat.reduceAdd] at hN hK)
        have ed : a.tmps.getD 42 undef = fvId := hN 1 (needs_get (by kernel_rfl))
        simp only [Array.getD_eq_getD_getElem?] at ed
        rw [if_pos (by rfl)]
        go_simp
        refine (awId_any 1 u).mono ?_
        rintro r u' ⟨rfl, hb⟩
        exact hK _ _ ⟨hb⟩ rfl
      · intro hne a u lu hN hO K hK
        (try simp only [Nat.zero_add, Nat.reduceAdd] at hN hK)
        have ed0 : a.tmps.getD 43 undef = vId 1 := hN 2 (needs_get (by kernel_rfl))
        simp only [Array.getD_eq_getD_getElem?] at ed0
        rw [if_pos (by rfl)]
        go_simp
        exact hK _ _ inferInstance ⟨u.heap.size, rfl, heap_alloc_new _ _⟩
      · intro hne a u lu hN hO K hK
        (try simp only [Nat.zero_add, Nat.reduceAdd] at hN hK)
        have eg : a.tmps.getD 41 undef = .agg #[sl1 gn 5] := hN 0 (needs_get (by kernel_rfl))
        simp only [Array.getD_eq_getD_getElem?] at eg
        obtain ⟨gx, ex, hx⟩ : ∃ g, a.tmps.getD 44 undef = sl1 g 1 ∧ u.heap[g]? = some (.cells #[.int .i64 1, .int .i64 1] 46 (0, 0)) := hN 3 (needs_get (by kernel_rfl))
        simp only [Array.getD_eq_getD_getElem?] at ex
        rw [if_pos (by rfl)]
        go_simp
        refine (exDoms (HN u lu) (blk_slAt IDE.enc (fr := (0, 0)) (e := 46) hx [iD 1] rfl)).mono ?_
        rintro r u' ⟨v, rfl, hv, hb⟩
        exact hK _ _ ⟨hb⟩ hv
      · intro hne a u lu hN hO K hK
        (try simp only [Nat.zero_add, Nat.reduceAdd] at hN hK)
        obtain ⟨x, y, ex, h1, h2⟩ : ∃ x y, a.tmps.getD 45 undef = .tuple #[x, y] ∧ (Spec.sl IDE.cells 2 allL).r x u ∧ (Spec.sl IDE.cells 2 upL).r y u := hN 4 (needs_get (by kernel_rfl))
        simp only [Array.getD_eq_getD_getElem?] at ex
        rw [if_pos (by rfl)]
        go_simp
        exact hK _ _ Later.refl ⟨x, y, rfl, h1, h2⟩
      · intro hne a u lu hN hO K hK
        (try simp only [Nat.zero_add, Nat.reduceAdd] at hN hK)
        obtain ⟨x, y, ex, h1, h2⟩ : ∃ x y, a.tmps.getD 40 undef = .tuple #[x, y] ∧ (Spec.sl IDE.cells 2 allL).r x u ∧ (Spec.sl IDE.cells 2 upL).r y u := hN 5 (needs_get (by kernel_rfl))
        simp only [Array.getD_eq_getD_getElem?] at ex
        rw [if_pos (by rfl)]
        go_simp
        exact hK _ _ Later.refl h1
      · intro hne a u lu hN hO K hK
        (try simp only [Nat.zero_add, Nat.reduceAdd] at hN hK)
        obtain ⟨x, y, ex, h1, h2⟩ : ∃ x y, a.tmps.getD 40 undef = .tuple #[x, y] ∧ (Spec.sl IDE.cells 2 allL).r x u ∧ (Spec.sl IDE.cells 2 upL).r y u := hN 5 (needs_get (by kernel_rfl))
        simp only [Array.getD_eq_getD_getElem?] at ex
        rw [if_pos (by rfl)]
        go_simp
        exact hK _ _ Later.refl h2
      · intro hne a u lu hN hO K hK
        (try simp only [Nat.zero_add, Nat.reduceAdd] at hN hK)
        obtain ⟨Ax, cx, ex, Sx⟩ : ∃ A c, a.tmps.getD 46 undef = .slice A 5 c ∧ SlAt IDE.cells 2 u A allL := hN 6 (needs_get (by kernel_rfl))
        simp only [Array.getD_eq_getD_getElem?] at ex
        rw [if_pos (by rfl)]
        go_simp
        exact hK _ _ Later.refl ⟨Ax, cx, rfl, Sx⟩
      · intro hne a u lu hN hO K hK
        (try simp only [Nat.zero_add, Nat.reduceAdd] at hN hK)
        obtain ⟨Ax, cx, ex, Sx⟩ : ∃ A c, a.tmps.getD 47 undef = .slice A 5 c ∧ SlAt IDE.cells 2 u A upL := hN 7 (needs_get (by kernel_rfl))
        simp only [Array.getD_eq_getD_getElem?] at ex
        rw [if_pos (by rfl)]
        go_simp
        exact hK _ _ Later.refl ⟨Ax, cx, rfl, Sx⟩
    · intro o ho; cases ho
    · intro _ a5 w5 hI5
      have q4 : ∃ A c, a5.tmps.getD 4 undef = .slice A 5 c ∧ SlAt IDE.cells 2 w5 A allL := hI5.got 8 (by decide) rfl
      have q5 : ∃ A c, a5.tmps.getD 5 undef = .slice A 5 c ∧ SlAt IDE.cells 2 w5 A upL := hI5.got 9 (by decide) rfl
      have p1' := (hI5.out 1 (out_get (by kernel_rfl))).trans p1
      have p3' := (hI5.out 3 (out_get (by kernel_rfl))).trans p3
      have hsz' := hide (show a5.tmps.size = 123 from hI5.size.trans hsz.out)
      have hdf' : a5.defers = [] := hI5.defers.trans hdf
      have l5 := hI5.later
      have l45 : Later w4 w5 := (show Later w4 w4.drew from inferInstance).trans l5
      replace hbw4 := hbw4.trans (l45.below.mono hbw4.size)
      replace hb4 := blk_below hb4 l45.below
      replace hg4 := blk_below hg4 l45.below
      replace hn4 := exB_later l45 hn4
      clear HB HC HX HN p1 p3 hsz hdf hI5 l45 l5
      go_upto_region 5 with fail
      have HB : ∀ u, Later w5.drew u → u.heap[w.heap.size]? = some (.cells #[fvId] 60 (0, 0)) := fun u lu => blk_below (blk_below hb4 (Below.refl _ _).drew) lu.below
      have HC : ∀ u, Later w5.drew u → u.cell? ⟨w.heap.size, 0, none⟩ = some fvId := fun u lu => by have := blk_cell (HB u lu) 0; simpa using this
      have HX : ∀ u, Later w5.drew u → u.cell? ⟨g3, 0, none⟩ = some (sl1 gn 5) := fun u lu => by have := blk_cell (blk_below (blk_below hg4 (Below.refl _ _).drew) lu.below) 0; simpa using this
      have HN : ∀ u, Later w5.drew u → exN gn u := fun u lu => (exB_later ((show Later w5 w5.drew from inferInstance).trans lu) hn4).exN
      refine wp_region_inv (last := 10) (R := specR [.is (.agg #[sl1 gn 5]), .is fvId, .is (vId 1), .blk (fun g => sl1 g 1) #[.int .i64 1, .int .i64 1] 46, .tup (.sl IDE.cells 2 allL) (.sl I64.cells 1 szL), .tup (.sl IDE.cells 2 allL) (.sl I64.cells 1 szL), .sl IDE.cells 2 allL, .sl I64.cells 1 szL, .sl IDE.cells 2 allL, .sl I64.cells 1 szL]) (by kernel_rfl) (specR_mono _) (by show checkD _ a5.tmps.size = true; rw [hsz'.out]; kernel_rfl) (by kernel_rfl) (steps_all ?_) ?_ ?_
      · refine ⟨?_, ?_, ?_, ?_, ?_, ?_, ?_, ?_, ?_, ?_, trivial⟩
        · intro hne a u lu hN hO K hK
          (try simp only [Nat.zero_add, Nat.reduceAdd] at hN hK)
          have e3 : a.tmps.getD 3 undef = .pointer (some ⟨g3, 0, none⟩) := (hO 3 (out_get (by kernel_rfl))).trans p3'
          simp only [Array.getD_eq_getD_getElem?] at e3
          have c3 := HX u lu
          rw [if_pos (by rfl)]
          go_simp
          exact hK _ _ Later.refl rfl
        · intro hne a u lu hN hO K hK
          (try simp only [Nat.zero_add, Nat.reduceAdd] at hN hK)
          have e1 : a.tmps.getD 1 undef = .pointer (some ⟨w.heap.size, 0, none⟩) := (hO 1 (out_get (by kernel_rfl))).trans p1'
          simp only [Array.getD_eq_getD_getElem?] at e1
          have c1 := HC u lu
          rw [if_pos (by rfl)]
          go_simp
          exact hK _ _ Later.refl rfl
        · intro hne a u lu hN hO K hK
          (try simp only [Nat.zero_add, Nat.reduceAdd] at hN hK)
          have ed : a.tmps.getD 50 undef = fvId := hN 1 (needs_get (by kernel_rfl))
          simp only [Array.getD_eq_getD_getElem?] at ed
          rw [if_pos (by rfl)]
          go_simp
          refine (awId_any 1 u).mono ?_
          rintro r u' ⟨rfl, hb⟩
          exact hK _ _ ⟨hb⟩ rfl
        · intro hne a u lu hN hO K hK
          (try simp only [Nat.zero_add, Nat.reduceAdd] at hN hK)
          have ed0 : a.tmps.getD 51 undef = vId 1 := hN 2 (needs_get (by kernel_rfl))
          simp only [Array.getD_eq_getD_getElem?] at ed0
          rw [if_pos (by rfl)]
          go_simp
          exact hK _ _ inferInstance ⟨u.heap.size, rfl, heap_alloc_new _ _⟩
        · intro hne a u lu hN hO K hK
          (try simp only [Nat.zero_add, Nat.reduceAdd] at hN hK)
          have eg : a.tmps.getD 49 undef = .agg #[sl1 gn 5] := hN 0 (needs_get (by kernel_rfl))
          simp only [Array.getD_eq_getD_getElem?] at eg
          obtain ⟨gx, ex, hx⟩ : ∃ g, a.tmps.getD 52 undef = sl1 g 1 ∧ u.heap[g]? = some (.cells #[.int .i64 1, .int .i64 1] 46 (0, 0)) := hN 3 (needs_get (by kernel_rfl))
          simp only [Array.getD_eq_getD_getElem?] at ex
          rw [if_pos (by rfl)]
          go_simp
          refine (exSizes (HN u lu) (blk_slAt IDE.enc (fr := (0, 0)) (e := 46) hx [iD 1] rfl)).mono ?_
          rintro r u' ⟨v, rfl, hv, hb⟩
          exact hK _ _ ⟨hb⟩ hv
        · intro hne a u lu hN hO K hK
          (try simp only [Nat.zero_add, Nat.reduceAdd] at hN hK)
          obtain ⟨x, y, ex, h1, h2⟩ : ∃ x y, a.tmps.getD 53 undef = .tuple #[x, y] ∧ (Spec.sl IDE.cells 2 allL).r x u ∧ (Spec.sl I64.cells 1 szL).r y u := hN 4 (needs_get (by kernel_rfl))
          simp only [Array.getD_eq_getD_getElem?] at ex
          rw [if_pos (by rfl)]
          go_simp
          exact hK _ _ Later.refl ⟨x, y, rfl, h1, h2⟩
        · intro hne a u lu hN hO K hK
          (try simp only [Nat.zero_add, Nat.reduceAdd] at hN hK)
          obtain ⟨x, y, ex, h1, h2⟩ : ∃ x y, a.tmps.getD 48 undef = .tuple #[x, y] ∧ (Spec.sl IDE.cells 2 allL).r x u ∧ (Spec.sl I64.cells 1 szL).r y u := hN 5 (needs_get (by kernel_rfl))
          simp only [Array.getD_eq_getD_getElem?] at ex
          rw [if_pos (by rfl)]
          go_simp
          exact hK _ _ Later.refl h1
        · intro hne a u lu hN hO K hK
          (try simp only [Nat.zero_add, Nat.reduceAdd] at hN hK)
          obtain ⟨x, y, ex, h1, h2⟩ : ∃ x y, a.tmps.getD 48 undef = .tuple #[x, y] ∧ (Spec.sl IDE.cells 2 allL).r x u ∧ (Spec.sl I64.cells 1 szL).r y u := hN 5 (needs_get (by kernel_rfl))
          simp only [Array.getD_eq_getD_getElem?] at ex
          rw [if_pos (by rfl)]
          go_simp
          exact hK _ _ Later.refl h2
        · intro hne a u lu hN hO K hK
          (try simp only [Nat.zero_add, Nat.reduceAdd] at hN hK)
          obtain ⟨Ax, cx, ex, Sx⟩ : ∃ A c, a.tmps.getD 54 undef = .slice A 5 c ∧ SlAt IDE.cells 2 u A allL := hN 6 (needs_get (by kernel_rfl))
          simp only [Array.getD_eq_getD_getElem?] at ex
          rw [if_pos (by rfl)]
          go_simp
          exact hK _ _ Later.refl ⟨Ax, cx, rfl, Sx⟩
        · intro hne a u lu hN hO K hK
          (try simp only [Nat.zero_add, Nat.reduceAdd] at hN hK)
          obtain ⟨Ax, cx, ex, Sx⟩ : ∃ A c, a.tmps.getD 55 undef = .slice A 5 c ∧ SlAt I64.cells 1 u A szL := hN 7 (needs_get (by kernel_rfl))
          simp only [Array.getD_eq_getD_getElem?] at ex
          rw [if_pos (by rfl)]
          go_simp
          exact hK _ _ Later.refl ⟨Ax, cx, rfl, Sx⟩
      · intro o ho; cases ho
      · intro _ a6 w6 hI6
        obtain ⟨A6, c6, q6, s6⟩ : ∃ A c, a6.tmps.getD 6 undef = .slice A 5 c ∧ SlAt IDE.cells 2 w6 A allL := hI6.got 8 (by decide) rfl
        obtain ⟨A7, c7, q7, s7⟩ : ∃ A c, a6.tmps.getD 7 undef = .slice A 5 c ∧ SlAt I64.cells 1 w6 A szL := hI6.got 9 (by decide) rfl
        have l6 := hI6.later
        have l56 : Later w5 w6 := (show Later w5 w5.drew from inferInstance).trans l6
        obtain ⟨A4, c4, q4, s4⟩ := q4
        obtain ⟨A5, c5, q5, s5⟩ := q5
        have p1 := (hI6.out 1 (out_get (by kernel_rfl))).trans p1'
        have p3 := (hI6.out 3 (out_get (by kernel_rfl))).trans p3'
        have q4' := (hI6.out 4 (out_get (by kernel_rfl))).trans q4
        have q5' := (hI6.out 5 (out_get (by kernel_rfl))).trans q5
        have hsz := hide (show a6.tmps.size = 123 from hI6.size.trans hsz'.out)
        have hdf : a6.defers = [] := hI6.defers.trans hdf'
        replace s4 := s4.below l56.below
        replace s5 := s5.below l56.below
        replace hbw4 := hbw4.trans (l56.below.mono hbw4.size)
        replace hb4 := blk_below hb4 l56.below
        replace hg4 := blk_below hg4 l56.below
        replace hn4 := exB_later l56 hn4
        clear HB HC HX HN p1' p3' hsz' hdf' hI6 l56 l6 q4 q5
        go_upto_region 6 with fail
        have HB : ∀ u, Later w6.drew u → u.heap[w.heap.size]? = some (.cells #[fvId] 60 (0, 0)) := fun u lu => blk_below (blk_below hb4 (Below.refl _ _).drew) lu.below
        have HC : ∀ u, Later w6.drew u → u.cell? ⟨w.heap.size, 0, none⟩ = some fvId := fun u lu => by have := blk_cell (HB u lu) 0; simpa using this
        have HX : ∀ u, Later w6.drew u → u.cell? ⟨g3, 0, none⟩ = some (sl1 gn 5) := fun u lu => by have := blk_cell (blk_below (blk_below hg4 (Below.refl _ _).drew) lu.below) 0; simpa using this
        have HN : ∀ u, Later w6.drew u → exN gn u := fun u lu => (exB_later ((show Later w6 w6.drew from inferInstance).trans lu) hn4).exN
        have ld6 : Later w6 w6.drew := inferInstance
        have Q4 : a6.tmps.getD 4 undef = .slice A4 5 c4 ∧ SlAt IDE.cells 2 w6.drew A4 allL := ⟨q4', s4.below ld6.below⟩
        have Q5 : a6.tmps.getD 5 undef = .slice A5 5 c5 ∧ SlAt IDE.cells 2 w6.drew A5 upL := ⟨q5', s5.below ld6.below⟩
        have Q6 : a6.tmps.getD 6 undef = .slice A6 5 c6 ∧ SlAt IDE.cells 2 w6.drew A6 allL := ⟨q6, s6.below ld6.below⟩
        have Q7 : a6.tmps.getD 7 undef = .slice A7 5 c7 ∧ SlAt I64.cells 1 w6.drew A7 szL := ⟨q7, s7.below ld6.below⟩
        refine wp_region_inv (last := 68) (R := specR [.sl IDE.cells 2 allL, .is (.int .i64 5), .is (.bool true), .is (.bool true), .sl IDE.cells 2 upL, .is (.agg #[.int .i64 0, .int .i64 0]), .is fvId, .is (vId 1), .is fvId, .is (vId 1), .is fvId, .is (vId 1), .is fvId, .is (vId 4), .blk (fun g => sl1 g 5) #[.int .i64 0, .int .i64 0, .int .i64 1, .int .i64 1, .int .i64 1, .int .i64 1, .int .i64 1, .int .i64 1, .int .i64 1, .int .i64 4] 46, .is (.bool true), .is (.bool true), .is (.bool true), .is (.agg #[sl1 gn 5]), .is fvId, .is (vId 4), .is fvId, .is (vId 1), .blk (fun g => sl1 g 1) #[.int .i64 1, .int .i64 1] 46, .sl IDE.cells 2 [iD 4, iD 5], .is fvId, .is (vId 4), .is fvId, .is (vId 5), .blk (fun g => sl1 g 2) #[.int .i64 1, .int .i64 4, .int .i64 1, .int .i64 5] 46, .is (.bool true), .is (.bool true), .is (.bool true), .sl IDE.cells 2 allL, .is (.int .i64 5), .is (.bool true), .is (.bool true), .is (.bool true), .sl I64.cells 1 szL, .blk (fun g => sl1 g 5) #[.int .i64 20, .int .i64 4, .int .i64 4, .int .i64 8, .int .i64 4] 3, .is (.bool true), .is (.bool true), .is (.bool true), .is (.agg #[sl1 gn 5]), .is fvId, .is (vId 1), .blk (fun g => sl1 g 1) #[.int .i64 1, .int .i64 1] 46, .sl IDE.cells 2 [iD 1, iD 4], .is fvId, .is (vId 1), .is fvId, .is (vId 4), .blk (fun g => sl1 g 2) #[.int .i64 1, .int .i64 1, .int .i64 1, .int .i64 4] 46, .is (.bool true), .is (.bool true), .is (.bool true), .is (.agg #[sl1 gn 5]), .is fvId, .is (vId 1), .is fvId, .is (vId 1), .is fvId, .is (vId 9), .blk (fun g => sl1 g 3) #[.int .i64 1, .int .i64 1, .int .i64 1, .int .i64 1, .int .i64 1, .int .i64 9] 46, .is (.int .i64 4), .is (.bool true), .is (.bool true), .is (.bool true)]) (by kernel_rfl) (specR_mono _) (by show checkD _ a6.tmps.size = true; rw [hsz.out]; kernel_rfl) (by kernel_rfl) (steps_all ?_) ?_ ?_
        · refine ⟨?_, ?_, ?_, ?_, ?_, ?_, ?_, ?_, ?_, ?_, ?_, ?_, ?_, ?_, ?_, ?_, ?_, ?_, ?_, ?_, ?_, ?_, ?_, ?_, ?_, ?_, ?_, ?_, ?_, ?_, ?_, ?_, ?_, ?_, ?_, ?_, ?_, ?_, ?_, ?_, ?_, ?_, ?_, ?_, ?_, ?_, ?_, ?_, ?_, ?_, ?_, ?_, ?_, ?_, ?_, ?_, ?_, ?_, ?_, ?_, ?_, ?_, ?_, ?_, ?_, ?_, ?_, ?_, trivial⟩
          · intro hne a u lu hN hO K hK
            (try simp only [Nat.zero_add, Nat.reduceAdd] at hN hK)
            have eo : a.tmps.getD 4 undef = _ := (hO 4 (out_get (by kernel_rfl))).trans Q4.1
            simp only [Array.getD_eq_getD_getElem?] at eo
            rw [if_pos (by rfl)]
            go_simp
            exact hK _ _ Later.refl ⟨_, _, rfl, Q4.2.below lu.below⟩
          · intro hne a u lu hN hO K hK
            (try simp only [Nat.zero_add, Nat.reduceAdd] at hN hK)
            obtain ⟨Ax, cx, ex, Sx⟩ : ∃ A c, a.tmps.getD 56 undef = .slice A 5 c ∧ SlAt IDE.cells 2 u A allL := hN 0 (needs_get (by kernel_rfl))
            simp only [Array.getD_eq_getD_getElem?] at ex
            rw [if_pos (by rfl)]
            go_simp
            exact hK _ _ Later.refl rfl
          · intro hne a u lu hN hO K hK
            (try simp only [Nat.zero_add, Nat.reduceAdd] at hN hK)
            have ed : a.tmps.getD 57 undef = .int .i64 5 := hN 1 (needs_get (by kernel_rfl))
            simp only [Array.getD_eq_getD_getElem?] at ed
            rw [if_pos (by rfl)]
            go_simp
            exact hK _ _ Later.refl rfl
          · intro hne a u lu hN hO K hK
            (try simp only [Nat.zero_add, Nat.reduceAdd] at hN hK)
            have et0 : a.tmps.getD 58 undef = .bool true := hN 2 (needs_get (by kernel_rfl))
            simp only [Array.getD_eq_getD_getElem?] at et0
            rw [if_pos (by rfl)]
            go_simp
            exact hK _ _ Later.refl rfl
          · intro hne a u lu hN hO K hK
            (try simp only [Nat.zero_add, Nat.reduceAdd] at hN hK)
            have eo : a.tmps.getD 5 undef = _ := (hO 5 (out_get (by kernel_rfl))).trans Q5.1
            simp only [Array.getD_eq_getD_getElem?] at eo
            rw [if_pos (wanted_guard (j := 3) (d := 59) (b := true) rfl (by kernel_rfl) (hN 3 (needs_get (by kernel_rfl))))]
            go_simp
            exact hK _ _ Later.refl ⟨_, _, rfl, Q5.2.below lu.below⟩
          · intro hne a u lu hN hO K hK
            (try simp only [Nat.zero_add, Nat.reduceAdd] at hN hK)
            rw [if_pos (wanted_guard (j := 3) (d := 59) (b := true) rfl (by kernel_rfl) (hN 3 (needs_get (by kernel_rfl))))]
            go_simp
            exact hK _ _ Later.refl rfl
          · intro hne a u lu hN hO K hK
            (try simp only [Nat.zero_add, Nat.reduceAdd] at hN hK)
            have e1 : a.tmps.getD 1 undef = .pointer (some ⟨w.heap.size, 0, none⟩) := (hO 1 (out_get (by kernel_rfl))).trans p1
            simp only [Array.getD_eq_getD_getElem?] at e1
            have c1 := HC u lu
            rw [if_pos (wanted_guard (j := 3) (d := 59) (b := true) rfl (by kernel_rfl) (hN 3 (needs_get (by kernel_rfl))))]
            go_simp
            exact hK _ _ Later.refl rfl
          · intro hne a u lu hN hO K hK
            (try simp only [Nat.zero_add, Nat.reduceAdd] at hN hK)
            have ed : a.tmps.getD 62 undef = fvId := hN 6 (needs_get (by kernel_rfl))
            simp only [Array.getD_eq_getD_getElem?] at ed
            rw [if_pos (wanted_guard (j := 3) (d := 59) (b := true) rfl (by kernel_rfl) (hN 3 (needs_get (by kernel_rfl))))]
            go_simp
            refine (awId_any 1 u).mono ?_
            rintro r u' ⟨rfl, hb⟩
            exact hK _ _ ⟨hb⟩ rfl
          · intro hne a u lu hN hO K hK
            (try simp only [Nat.zero_add, Nat.reduceAdd] at hN hK)
            have e1 : a.tmps.getD 1 undef = .pointer (some ⟨w.heap.size, 0, none⟩) := (hO 1 (out_get (by kernel_rfl))).trans p1
            simp only [Array.getD_eq_getD_getElem?] at e1
            have c1 := HC u lu
            rw [if_pos (wanted_guard (j := 3) (d := 59) (b := true) rfl (by kernel_rfl) (hN 3 (needs_get (by kernel_rfl))))]
            go_simp
            exact hK _ _ Later.refl rfl
          · intro hne a u lu hN hO K hK
            (try simp only [Nat.zero_add, Nat.reduceAdd] at hN hK)
            have ed : a.tmps.getD 64 undef = fvId := hN 8 (needs_get (by kernel_rfl))
            simp only [Array.getD_eq_getD_getElem?] at ed
            rw [if_pos (wanted_guard (j := 3) (d := 59) (b := true) rfl (by kernel_rfl) (hN 3 (needs_get (by kernel_rfl))))]
            go_simp
            refine (awId_any 1 u).mono ?_
            rintro r u' ⟨rfl, hb⟩
            exact hK _ _ ⟨hb⟩ rfl
          · intro hne a u lu hN hO K hK
            (try simp only [Nat.zero_add, Nat.reduceAdd] at hN hK)
            have e1 : a.tmps.getD 1 undef = .pointer (some ⟨w.heap.size, 0, none⟩) := (hO 1 (out_get (by kernel_rfl))).trans p1
            simp only [Array.getD_eq_getD_getElem?] at e1
            have c1 := HC u lu
            rw [if_pos (wanted_guard (j := 3) (d := 59) (b := true) rfl (by kernel_rfl) (hN 3 (needs_get (by kernel_rfl))))]
            go_simp
            exact hK _ _ Later.refl rfl
          · intro hne a u lu hN hO K hK
            (try simp only [Nat.zero_add, Nat.reduceAdd] at hN hK)
            have ed : a.tmps.getD 66 undef = fvId := hN 10 (needs_get (by kernel_rfl))
            simp only [Array.getD_eq_getD_getElem?] at ed
            rw [if_pos (wanted_guard (j := 3) (d := 59) (b := true) rfl (by kernel_rfl) (hN 3 (needs_get (by kernel_rfl))))]
            go_simp
            refine (awId_any 1 u).mono ?_
            rintro r u' ⟨rfl, hb⟩
            exact hK _ _ ⟨hb⟩ rfl
          · intro hne a u lu hN hO K hK
            (try simp only [Nat.zero_add, Nat.reduceAdd] at hN hK)
            have e1 : a.tmps.getD 1 undef = .pointer (some ⟨w.heap.size, 0, none⟩) := (hO 1 (out_get (by kernel_rfl))).trans p1
            simp only [Array.getD_eq_getD_getElem?] at e1
            have c1 := HC u lu
            rw [if_pos (wanted_guard (j := 3) (d := 59) (b := true) rfl (by kernel_rfl) (hN 3 (needs_get (by kernel_rfl))))]
            go_simp
            exact hK _ _ Later.refl rfl
          · intro hne a u lu hN hO K hK
            (try simp only [Nat.zero_add, Nat.reduceAdd] at hN hK)
            have ed : a.tmps.getD 68 undef = fvId := hN 12 (needs_get (by kernel_rfl))
            simp only [Array.getD_eq_getD_getElem?] at ed
            rw [if_pos (wanted_guard (j := 3) (d := 59) (b := true) rfl (by kernel_rfl) (hN 3 (needs_get (by kernel_rfl))))]
            go_simp
            refine (awId_any 4 u).mono ?_
            rintro r u' ⟨rfl, hb⟩
            exact hK _ _ ⟨hb⟩ rfl
          · intro hne a u lu hN hO K hK
            (try simp only [Nat.zero_add, Nat.reduceAdd] at hN hK)
            have ed0 : a.tmps.getD 61 undef = .agg #[.int .i64 0, .int .i64 0] := hN 5 (needs_get (by kernel_rfl))
            simp only [Array.getD_eq_getD_getElem?] at ed0
            have ed1 : a.tmps.getD 63 undef = vId 1 := hN 7 (needs_get (by kernel_rfl))
            simp only [Array.getD_eq_getD_getElem?] at ed1
            have ed2 : a.tmps.getD 65 undef = vId 1 := hN 9 (needs_get (by kernel_rfl))
            simp only [Array.getD_eq_getD_getElem?] at ed2
            have ed3 : a.tmps.getD 67 undef = vId 1 := hN 11 (needs_get (by kernel_rfl))
            simp only [Array.getD_eq_getD_getElem?] at ed3
            have ed4 : a.tmps.getD 69 undef = vId 4 := hN 13 (needs_get (by kernel_rfl))
            simp only [Array.getD_eq_getD_getElem?] at ed4
            rw [if_pos (wanted_guard (j := 3) (d := 59) (b := true) rfl (by kernel_rfl) (hN 3 (needs_get (by kernel_rfl))))]
            go_simp
            exact hK _ _ inferInstance ⟨u.heap.size, rfl, heap_alloc_new _ _⟩
          · intro hne a u lu hN hO K hK
            (try simp only [Nat.zero_add, Nat.reduceAdd] at hN hK)
            obtain ⟨Ap, cp, ep, Sp⟩ : ∃ A c, a.tmps.getD 60 undef = .slice A 5 c ∧ SlAt IDE.cells 2 u A upL := hN 4 (needs_get (by kernel_rfl))
            simp only [Array.getD_eq_getD_getElem?] at ep
            obtain ⟨gq, eq, hq⟩ : ∃ g, a.tmps.getD 70 undef = sl1 g 5 ∧ u.heap[g]? = some (.cells #[.int .i64 0, .int .i64 0, .int .i64 1, .int .i64 1, .int .i64 1, .int .i64 1, .int .i64 1, .int .i64 1, .int .i64 1, .int .i64 4] 46 (0, 0)) := hN 14 (needs_get (by kernel_rfl))
            simp only [Array.getD_eq_getD_getElem?] at eq
            rw [if_pos (wanted_guard (j := 3) (d := 59) (b := true) rfl (by kernel_rfl) (hN 3 (needs_get (by kernel_rfl))))]
            go_simp
            refine (exSame Sp (blk_slAt IDE.enc (fr := (0, 0)) (e := 46) hq [⟨0, 0⟩, iD 1, iD 1, iD 1, iD 4] rfl) rfl (by simp)).mono ?_
            rintro r u' ⟨rfl, hb⟩
            exact hK _ _ ⟨hb⟩ rfl
          · intro hne a u lu hN hO K hK
            (try simp only [Nat.zero_add, Nat.reduceAdd] at hN hK)
            have et0 : a.tmps.getD 59 undef = .bool true := hN 3 (needs_get (by kernel_rfl))
            simp only [Array.getD_eq_getD_getElem?] at et0
            have et1 : a.tmps.getD 71 undef = .bool true := hN 15 (needs_get (by kernel_rfl))
            simp only [Array.getD_eq_getD_getElem?] at et1
            rw [if_pos (by rfl)]
            go_simp
            exact hK _ _ Later.refl rfl
          · intro hne a u lu hN hO K hK
            (try simp only [Nat.zero_add, Nat.reduceAdd] at hN hK)
            have et0 : a.tmps.getD 72 undef = .bool true := hN 16 (needs_get (by kernel_rfl))
            simp only [Array.getD_eq_getD_getElem?] at et0
            rw [if_pos (by rfl)]
            go_simp
            exact hK _ _ Later.refl rfl
          · intro hne a u lu hN hO K hK
            (try simp only [Nat.zero_add, Nat.reduceAdd] at hN hK)
            have e3 : a.tmps.getD 3 undef = .pointer (some ⟨g3, 0, none⟩) := (hO 3 (out_get (by kernel_rfl))).trans p3
            simp only [Array.getD_eq_getD_getElem?] at e3
            have c3 := HX u lu
            rw [if_pos (wanted_guard (j := 17) (d := 73) (b := true) rfl (by kernel_rfl) (hN 17 (needs_get (by kernel_rfl))))]
            go_simp
            exact hK _ _ Later.refl rfl
          · intro hne a u lu hN hO K hK
            (try simp only [Nat.zero_add, Nat.reduceAdd] at hN hK)
            have e1 : a.tmps.getD 1 undef = .pointer (some ⟨w.heap.size, 0, none⟩) := (hO 1 (out_get (by kernel_rfl))).trans p1
            simp only [Array.getD_eq_getD_getElem?] at e1
            have c1 := HC u lu
            rw [if_pos (wanted_guard (j := 17) (d := 73) (b := true) rfl (by kernel_rfl) (hN 17 (needs_get (by kernel_rfl))))]
            go_simp
            exact hK _ _ Later.refl rfl
          · intro hne a u lu hN hO K hK
            (try simp only [Nat.zero_add, Nat.reduceAdd] at hN hK)
            have ed : a.tmps.getD 75 undef = fvId := hN 19 (needs_get (by kernel_rfl))
            simp only [Array.getD_eq_getD_getElem?] at ed
            rw [if_pos (wanted_guard (j := 17) (d := 73) (b := true) rfl (by kernel_rfl) (hN 17 (needs_get (by kernel_rfl))))]
            go_simp
            refine (awId_any 4 u).mono ?_
            rintro r u' ⟨rfl, hb⟩
            exact hK _ _ ⟨hb⟩ rfl
          · intro hne a u lu hN hO K hK
            (try simp only [Nat.zero_add, Nat.reduceAdd] at hN hK)
            have e1 : a.tmps.getD 1 undef = .pointer (some ⟨w.heap.size, 0, none⟩) := (hO 1 (out_get (by kernel_rfl))).trans p1
            simp only [Array.getD_eq_getD_getElem?] at e1
            have c1 := HC u lu
            rw [if_pos (wanted_guard (j := 17) (d := 73) (b := true) rfl (by kernel_rfl) (hN 17 (needs_get (by kernel_rfl))))]
            go_simp
            exact hK _ _ Later.refl rfl
          · intro hne a u lu hN hO K hK
            (try simp only [Nat.zero_add, Nat.reduceAdd] at hN hK)
            have ed : a.tmps.getD 77 undef = fvId := hN 21 (needs_get (by kernel_rfl))
            simp only [Array.getD_eq_getD_getElem?] at ed
            rw [if_pos (wanted_guard (j := 17) (d := 73) (b := true) rfl (by kernel_rfl) (hN 17 (needs_get (by kernel_rfl))))]
            go_simp
            refine (awId_any 1 u).mono ?_
            rintro r u' ⟨rfl, hb⟩
            exact hK _ _ ⟨hb⟩ rfl
          · intro hne a u lu hN hO K hK
            (try simp only [Nat.zero_add, Nat.reduceAdd] at hN hK)
            have ed0 : a.tmps.getD 78 undef = vId 1 := hN 22 (needs_get (by kernel_rfl))
            simp only [Array.getD_eq_getD_getElem?] at ed0
            rw [if_pos (wanted_guard (j := 17) (d := 73) (b := true) rfl (by kernel_rfl) (hN 17 (needs_get (by kernel_rfl))))]
            go_simp
            exact hK _ _ inferInstance ⟨u.heap.size, rfl, heap_alloc_new _ _⟩
          · intro hne a u lu hN hO K hK
            (try simp only [Nat.zero_add, Nat.reduceAdd] at hN hK)
            have eg : a.tmps.getD 74 undef = .agg #[sl1 gn 5] := hN 18 (needs_get (by kernel_rfl))
            simp only [Array.getD_eq_getD_getElem?] at eg
            have ed : a.tmps.getD 76 undef = vId 4 := hN 20 (needs_get (by kernel_rfl))
            simp only [Array.getD_eq_getD_getElem?] at ed
            obtain ⟨gx, ex, hx⟩ : ∃ g, a.tmps.getD 79 undef = sl1 g 1 ∧ u.heap[g]? = some (.cells #[.int .i64 1, .int .i64 1] 46 (0, 0)) := hN 23 (needs_get (by kernel_rfl))
            simp only [Array.getD_eq_getD_getElem?] at ex
            rw [if_pos (wanted_guard (j := 17) (d := 73) (b := true) rfl (by kernel_rfl) (hN 17 (needs_get (by kernel_rfl))))]
            go_simp
            refine (exRet (HN u lu) (blk_slAt IDE.enc (fr := (0, 0)) (e := 46) hx [iD 1] rfl)).mono ?_
            rintro r u' ⟨v, rfl, hv, hb⟩
            exact hK _ _ ⟨hb⟩ hv
          · intro hne a u lu hN hO K hK
            (try simp only [Nat.zero_add, Nat.reduceAdd] at hN hK)
            have e1 : a.tmps.getD 1 undef = .pointer (some ⟨w.heap.size, 0, none⟩) := (hO 1 (out_get (by kernel_rfl))).trans p1
            simp only [Array.getD_eq_getD_getElem?] at e1
            have c1 := HC u lu
            rw [if_pos (wanted_guard (j := 17) (d := 73) (b := true) rfl (by kernel_rfl) (hN 17 (needs_get (by kernel_rfl))))]
            go_simp
            exact hK _ _ Later.refl rfl
          · intro hne a u lu hN hO K hK
            (try simp only [Nat.zero_add, Nat.reduceAdd] at hN hK)
            have ed : a.tmps.getD 81 undef = fvId := hN 25 (needs_get (by kernel_rfl))
            simp only [Array.getD_eq_getD_getElem?] at ed
            rw [if_pos (wanted_guard (j := 17) (d := 73) (b := true) rfl (by kernel_rfl) (hN 17 (needs_get (by kernel_rfl))))]
            go_simp
            refine (awId_any 4 u).mono ?_
            rintro r u' ⟨rfl, hb⟩
            exact hK _ _ ⟨hb⟩ rfl
          · intro hne a u lu hN hO K hK
            (try simp only [Nat.zero_add, Nat.reduceAdd] at hN hK)
            have e1 : a.tmps.getD 1 undef = .pointer (some ⟨w.heap.size, 0, none⟩) := (hO 1 (out_get (by kernel_rfl))).trans p1
            simp only [Array.getD_eq_getD_getElem?] at e1
            have c1 := HC u lu
            rw [if_pos (wanted_guard (j := 17) (d := 73) (b := true) rfl (by kernel_rfl) (hN 17 (needs_get (by kernel_rfl))))]
            go_simp
            exact hK _ _ Later.refl rfl
          · intro hne a u lu hN hO K hK
            (try simp only [Nat.zero_add, Nat.reduceAdd] at hN hK)
            have ed : a.tmps.getD 83 undef = fvId := hN 27 (needs_get (by kernel_rfl))
            simp only [Array.getD_eq_getD_getElem?] at ed
            rw [if_pos (wanted_guard (j := 17) (d := 73) (b := true) rfl (by kernel_rfl) (hN 17 (needs_get (by kernel_rfl))))]
            go_simp
            refine (awId_any 5 u).mono ?_
            rintro r u' ⟨rfl, hb⟩
            exact hK _ _ ⟨hb⟩ rfl
          · intro hne a u lu hN hO K hK
            (try simp only [Nat.zero_add, Nat.reduceAdd] at hN hK)
            have ed0 : a.tmps.getD 82 undef = vId 4 := hN 26 (needs_get (by kernel_rfl))
            simp only [Array.getD_eq_getD_getElem?] at ed0
            have ed1 : a.tmps.getD 84 undef = vId 5 := hN 28 (needs_get (by kernel_rfl))
            simp only [Array.getD_eq_getD_getElem?] at ed1
            rw [if_pos (wanted_guard (j := 17) (d := 73) (b := true) rfl (by kernel_rfl) (hN 17 (needs_get (by kernel_rfl))))]
            go_simp
            exact hK _ _ inferInstance ⟨u.heap.size, rfl, heap_alloc_new _ _⟩
          · intro hne a u lu hN hO K hK
            (try simp only [Nat.zero_add, Nat.reduceAdd] at hN hK)
            obtain ⟨Ap, cp, ep, Sp⟩ : ∃ A c, a.tmps.getD 80 undef = .slice A 2 c ∧ SlAt IDE.cells 2 u A [iD 4, iD 5] := hN 24 (needs_get (by kernel_rfl))
            simp only [Array.getD_eq_getD_getElem?] at ep
            obtain ⟨gq, eq, hq⟩ : ∃ g, a.tmps.getD 85 undef = sl1 g 2 ∧ u.heap[g]? = some (.cells #[.int .i64 1, .int .i64 4, .int .i64 1, .int .i64 5] 46 (0, 0)) := hN 29 (needs_get (by kernel_rfl))
            simp only [Array.getD_eq_getD_getElem?] at eq
            rw [if_pos (wanted_guard (j := 17) (d := 73) (b := true) rfl (by kernel_rfl) (hN 17 (needs_get (by kernel_rfl))))]
            go_simp
            refine (exSame Sp (blk_slAt IDE.enc (fr := (0, 0)) (e := 46) hq [iD 4, iD 5] rfl) rfl (by simp)).mono ?_
            rintro r u' ⟨rfl, hb⟩
            exact hK _ _ ⟨hb⟩ rfl
          · intro hne a u lu hN hO K hK
            (try simp only [Nat.zero_add, Nat.reduceAdd] at hN hK)
            have et0 : a.tmps.getD 73 undef = .bool true := hN 17 (needs_get (by kernel_rfl))
            simp only [Array.getD_eq_getD_getElem?] at et0
            have et1 : a.tmps.getD 86 undef = .bool true := hN 30 (needs_get (by kernel_rfl))
            simp only [Array.getD_eq_getD_getElem?] at et1
            rw [if_pos (by rfl)]
            go_simp
            exact hK _ _ Later.refl rfl
          · intro hne a u lu hN hO K hK
            (try simp only [Nat.zero_add, Nat.reduceAdd] at hN hK)
            have et0 : a.tmps.getD 87 undef = .bool true := hN 31 (needs_get (by kernel_rfl))
            simp only [Array.getD_eq_getD_getElem?] at et0
            rw [if_pos (by rfl)]
            go_simp
            exact hK _ _ Later.refl rfl
          · intro hne a u lu hN hO K hK
            (try simp only [Nat.zero_add, Nat.reduceAdd] at hN hK)
            have eo : a.tmps.getD 6 undef = _ := (hO 6 (out_get (by kernel_rfl))).trans Q6.1
            simp only [Array.getD_eq_getD_getElem?] at eo
            rw [if_pos (wanted_guard (j := 32) (d := 88) (b := true) rfl (by kernel_rfl) (hN 32 (needs_get (by kernel_rfl))))]
            go_simp
            exact hK _ _ Later.refl ⟨_, _, rfl, Q6.2.below lu.below⟩
          · intro hne a u lu hN hO K hK
            (try simp only [Nat.zero_add, Nat.reduceAdd] at hN hK)
            obtain ⟨Ax, cx, ex, Sx⟩ : ∃ A c, a.tmps.getD 89 undef = .slice A 5 c ∧ SlAt IDE.cells 2 u A allL := hN 33 (needs_get (by kernel_rfl))
            simp only [Array.getD_eq_getD_getElem?] at ex
            rw [if_pos (wanted_guard (j := 32) (d := 88) (b := true) rfl (by kernel_rfl) (hN 32 (needs_get (by kernel_rfl))))]
            go_simp
            exact hK _ _ Later.refl rfl
          · intro hne a u lu hN hO K hK
            (try simp only [Nat.zero_add, Nat.reduceAdd] at hN hK)
            have ed : a.tmps.getD 90 undef = .int .i64 5 := hN 34 (needs_get (by kernel_rfl))
            simp only [Array.getD_eq_getD_getElem?] at ed
            rw [if_pos (wanted_guard (j := 32) (d := 88) (b := true) rfl (by kernel_rfl) (hN 32 (needs_get (by kernel_rfl))))]
            go_simp
            exact hK _ _ Later.refl rfl
          · intro hne a u lu hN hO K hK
            (try simp only [Nat.zero_add, Nat.reduceAdd] at hN hK)
            have et0 : a.tmps.getD 88 undef = .bool true := hN 32 (needs_get (by kernel_rfl))
            simp only [Array.getD_eq_getD_getElem?] at et0
            have et1 : a.tmps.getD 91 undef = .bool true := hN 35 (needs_get (by kernel_rfl))
            simp only [Array.getD_eq_getD_getElem?] at et1
            rw [if_pos (by rfl)]
            go_simp
            exact hK _ _ Later.refl rfl
          · intro hne a u lu hN hO K hK
            (try simp only [Nat.zero_add, Nat.reduceAdd] at hN hK)
            have et0 : a.tmps.getD 92 undef = .bool true := hN 36 (needs_get (by kernel_rfl))
            simp only [Array.getD_eq_getD_getElem?] at et0
            rw [if_pos (by rfl)]
            go_simp
            exact hK _ _ Later.refl rfl
          · intro hne a u lu hN hO K hK
            (try simp only [Nat.zero_add, Nat.reduceAdd] at hN hK)
            have eo : a.tmps.getD 7 undef = _ := (hO 7 (out_get (by kernel_rfl))).trans Q7.1
            simp only [Array.getD_eq_getD_getElem?] at eo
            rw [if_pos (wanted_guard (j := 37) (d := 93) (b := true) rfl (by kernel_rfl) (hN 37 (needs_get (by kernel_rfl))))]
            go_simp
            exact hK _ _ Later.refl ⟨_, _, rfl, Q7.2.below lu.below⟩
          · intro hne a u lu hN hO K hK
            (try simp only [Nat.zero_add, Nat.reduceAdd] at hN hK)
            rw [if_pos (wanted_guard (j := 37) (d := 93) (b := true) rfl (by kernel_rfl) (hN 37 (needs_get (by kernel_rfl))))]
            go_simp
            exact hK _ _ inferInstance ⟨u.heap.size, rfl, heap_alloc_new _ _⟩
          · intro hne a u lu hN hO K hK
            (try simp only [Nat.zero_add, Nat.reduceAdd] at hN hK)
            obtain ⟨Ap, cp, ep, Sp⟩ : ∃ A c, a.tmps.getD 94 undef = .slice A 5 c ∧ SlAt I64.cells 1 u A szL := hN 38 (needs_get (by kernel_rfl))
            simp only [Array.getD_eq_getD_getElem?] at ep
            obtain ⟨gq, eq, hq⟩ : ∃ g, a.tmps.getD 95 undef = sl1 g 5 ∧ u.heap[g]? = some (.cells #[.int .i64 20, .int .i64 4, .int .i64 4, .int .i64 8, .int .i64 4] 3 (0, 0)) := hN 39 (needs_get (by kernel_rfl))
            simp only [Array.getD_eq_getD_getElem?] at eq
            rw [if_pos (wanted_guard (j := 37) (d := 93) (b := true) rfl (by kernel_rfl) (hN 37 (needs_get (by kernel_rfl))))]
            go_simp
            refine (exInts Sp (blk_slAt I64.enc (fr := (0, 0)) (e := 3) hq [20, 4, 4, 8, 4] rfl) rfl (by simp)).mono ?_
            rintro r u' ⟨rfl, hb⟩
            exact hK _ _ ⟨hb⟩ rfl
          · intro hne a u lu hN hO K hK
            (try simp only [Nat.zero_add, Nat.reduceAdd] at hN hK)
            have et0 : a.tmps.getD 93 undef = .bool true := hN 37 (needs_get (by kernel_rfl))
            simp only [Array.getD_eq_getD_getElem?] at et0
            have et1 : a.tmps.getD 96 undef = .bool true := hN 40 (needs_get (by kernel_rfl))
            simp only [Array.getD_eq_getD_getElem?] at et1
            rw [if_pos (by rfl)]
            go_simp
            exact hK _ _ Later.refl rfl
          · intro hne a u lu hN hO K hK
            (try simp only [Nat.zero_add, Nat.reduceAdd] at hN hK)
            have et0 : a.tmps.getD 97 undef = .bool true := hN 41 (needs_get (by kernel_rfl))
            simp only [Array.getD_eq_getD_getElem?] at et0
            rw [if_pos (by rfl)]
            go_simp
            exact hK _ _ Later.refl rfl
          · intro hne a u lu hN hO K hK
            (try simp only [Nat.zero_add, Nat.reduceAdd] at hN hK)
            have e3 : a.tmps.getD 3 undef = .pointer (some ⟨g3, 0, none⟩) := (hO 3 (out_get (by kernel_rfl))).trans p3
            simp only [Array.getD_eq_getD_getElem?] at e3
            have c3 := HX u lu
            rw [if_pos (wanted_guard (j := 42) (d := 98) (b := true) rfl (by kernel_rfl) (hN 42 (needs_get (by kernel_rfl))))]
            go_simp
            exact hK _ _ Later.refl rfl
          · intro hne a u lu hN hO K hK
            (try simp only [Nat.zero_add, Nat.reduceAdd] at hN hK)
            have e1 : a.tmps.getD 1 undef = .pointer (some ⟨w.heap.size, 0, none⟩) := (hO 1 (out_get (by kernel_rfl))).trans p1
            simp only [Array.getD_eq_getD_getElem?] at e1
            have c1 := HC u lu
            rw [if_pos (wanted_guard (j := 42) (d := 98) (b := true) rfl (by kernel_rfl) (hN 42 (needs_get (by kernel_rfl))))]
            go_simp
            exact hK _ _ Later.refl rfl
          · intro hne a u lu hN hO K hK
            (try simp only [Nat.zero_add, Nat.reduceAdd] at hN hK)
            have ed : a.tmps.getD 100 undef = fvId := hN 44 (needs_get (by kernel_rfl))
            simp only [Array.getD_eq_getD_getElem?] at ed
            rw [if_pos (wanted_guard (j := 42) (d := 98) (b := true) rfl (by kernel_rfl) (hN 42 (needs_get (by kernel_rfl))))]
            go_simp
            refine (awId_any 1 u).mono ?_
            rintro r u' ⟨rfl, hb⟩
            exact hK _ _ ⟨hb⟩ rfl
          · intro hne a u lu hN hO K hK
            (try simp only [Nat.zero_add, Nat.reduceAdd] at hN hK)
            have ed0 : a.tmps.getD 101 undef = vId 1 := hN 45 (needs_get (by kernel_rfl))
            simp only [Array.getD_eq_getD_getElem?] at ed0
            rw [if_pos (wanted_guard (j := 42) (d := 98) (b := true) rfl (by kernel_rfl) (hN 42 (needs_get (by kernel_rfl))))]
            go_simp
            exact hK _ _ inferInstance ⟨u.heap.size, rfl, heap_alloc_new _ _⟩
          · intro hne a u lu hN hO K hK
            (try simp only [Nat.zero_add, Nat.reduceAdd] at hN hK)
            have eg : a.tmps.getD 99 undef = .agg #[sl1 gn 5] := hN 43 (needs_get (by kernel_rfl))
            simp only [Array.getD_eq_getD_getElem?] at eg
            obtain ⟨gx, ex, hx⟩ : ∃ g, a.tmps.getD 102 undef = sl1 g 1 ∧ u.heap[g]? = some (.cells #[.int .i64 1, .int .i64 1] 46 (0, 0)) := hN 46 (needs_get (by kernel_rfl))
            simp only [Array.getD_eq_getD_getElem?] at ex
            rw [if_pos (wanted_guard (j := 42) (d := 98) (b := true) rfl (by kernel_rfl) (hN 42 (needs_get (by kernel_rfl))))]
            go_simp
            refine (exLarg (HN u lu) (blk_slAt IDE.enc (fr := (0, 0)) (e := 46) hx [iD 1] rfl)).mono ?_
            rintro r u' ⟨v, rfl, hv, hb⟩
            exact hK _ _ ⟨hb⟩ hv
          · intro hne a u lu hN hO K hK
            (try simp only [Nat.zero_add, Nat.reduceAdd] at hN hK)
            have e1 : a.tmps.getD 1 undef = .pointer (some ⟨w.heap.size, 0, none⟩) := (hO 1 (out_get (by kernel_rfl))).trans p1
            simp only [Array.getD_eq_getD_getElem?] at e1
            have c1 := HC u lu
            rw [if_pos (wanted_guard (j := 42) (d := 98) (b := true) rfl (by kernel_rfl) (hN 42 (needs_get (by kernel_rfl))))]
            go_simp
            exact hK _ _ Later.refl rfl
          · intro hne a u lu hN hO K hK
            (try simp only [Nat.zero_add, Nat.reduceAdd] at hN hK)
            have ed : a.tmps.getD 104 undef = fvId := hN 48 (needs_get (by kernel_rfl))
            simp only [Array.getD_eq_getD_getElem?] at ed
            rw [if_pos (wanted_guard (j := 42) (d := 98) (b := true) rfl (by kernel_rfl) (hN 42 (needs_get (by kernel_rfl))))]
            go_simp
            refine (awId_any 1 u).mono ?_
            rintro r u' ⟨rfl, hb⟩
            exact hK _ _ ⟨hb⟩ rfl
          · intro hne a u lu hN hO K hK
            (try simp only [Nat.zero_add, Nat.reduceAdd] at hN hK)
            have e1 : a.tmps.getD 1 undef = .pointer (some ⟨w.heap.size, 0, none⟩) := (hO 1 (out_get (by kernel_rfl))).trans p1
            simp only [Array.getD_eq_getD_getElem?] at e1
            have c1 := HC u lu
            rw [if_pos (wanted_guard (j := 42) (d := 98) (b := true) rfl (by kernel_rfl) (hN 42 (needs_get (by kernel_rfl))))]
            go_simp
            exact hK _ _ Later.refl rfl
          · intro hne a u lu hN hO K hK
            (try simp only [Nat.zero_add, Nat.reduceAdd] at hN hK)
            have ed : a.tmps.getD 106 undef = fvId := hN 50 (needs_get (by kernel_rfl))
            simp only [Array.getD_eq_getD_getElem?] at ed
            rw [if_pos (wanted_guard (j := 42) (d := 98) (b := true) rfl (by kernel_rfl) (hN 42 (needs_get (by kernel_rfl))))]
            go_simp
            refine (awId_any 4 u).mono ?_
            rintro r u' ⟨rfl, hb⟩
            exact hK _ _ ⟨hb⟩ rfl
          · intro hne a u lu hN hO K hK
            (try simp only [Nat.zero_add, Nat.reduceAdd] at hN hK)
            have ed0 : a.tmps.getD 105 undef = vId 1 := hN 49 (needs_get (by kernel_rfl))
            simp only [Array.getD_eq_getD_getElem?] at ed0
            have ed1 : a.tmps.getD 107 undef = vId 4 := hN 51 (needs_get (by kernel_rfl))
            simp only [Array.getD_eq_getD_getElem?] at ed1
            rw [if_pos (wanted_guard (j := 42) (d := 98) (b := true) rfl (by kernel_rfl) (hN 42 (needs_get (by kernel_rfl))))]
            go_simp
            exact hK _ _ inferInstance ⟨u.heap.size, rfl, heap_alloc_new _ _⟩
          · intro hne a u lu hN hO K hK
            (try simp only [Nat.zero_add, Nat.reduceAdd] at hN hK)
            obtain ⟨Ap, cp, ep, Sp⟩ : ∃ A c, a.tmps.getD 103 undef = .slice A 2 c ∧ SlAt IDE.cells 2 u A [iD 1, iD 4] := hN 47 (needs_get (by kernel_rfl))
            simp only [Array.getD_eq_getD_getElem?] at ep
            obtain ⟨gq, eq, hq⟩ : ∃ g, a.tmps.getD 108 undef = sl1 g 2 ∧ u.heap[g]? = some (.cells #[.int .i64 1, .int .i64 1, .int .i64 1, .int .i64 4] 46 (0, 0)) := hN 52 (needs_get (by kernel_rfl))
            simp only [Array.getD_eq_getD_getElem?] at eq
            rw [if_pos (wanted_guard (j := 42) (d := 98) (b := true) rfl (by kernel_rfl) (hN 42 (needs_get (by kernel_rfl))))]
            go_simp
            refine (exSame Sp (blk_slAt IDE.enc (fr := (0, 0)) (e := 46) hq [iD 1, iD 4] rfl) rfl (by simp)).mono ?_
            rintro r u' ⟨rfl, hb⟩
            exact hK _ _ ⟨hb⟩ rfl
          · intro hne a u lu hN hO K hK
            (try simp only [Nat.zero_add, Nat.reduceAdd] at hN hK)
            have et0 : a.tmps.getD 98 undef = .bool true := hN 42 (needs_get (by kernel_rfl))
            simp only [Array.getD_eq_getD_getElem?] at et0
            have et1 : a.tmps.getD 109 undef = .bool true := hN 53 (needs_get (by kernel_rfl))
            simp only [Array.getD_eq_getD_getElem?] at et1
            rw [if_pos (by rfl)]
            go_simp
            exact hK _ _ Later.refl rfl
          · intro hne a u lu hN hO K hK
            (try simp only [Nat.zero_add, Nat.reduceAdd] at hN hK)
            have et0 : a.tmps.getD 110 undef = .bool true := hN 54 (needs_get (by kernel_rfl))
            simp only [Array.getD_eq_getD_getElem?] at et0
            rw [if_pos (by rfl)]
            go_simp
            exact hK _ _ Later.refl rfl
          · intro hne a u lu hN hO K hK
            (try simp only [Nat.zero_add, Nat.reduceAdd] at hN hK)
            have e3 : a.tmps.getD 3 undef = .pointer (some ⟨g3, 0, none⟩) := (hO 3 (out_get (by kernel_rfl))).trans p3
            simp only [Array.getD_eq_getD_getElem?] at e3
            have c3 := HX u lu
            rw [if_pos (wanted_guard (j := 55) (d := 111) (b := true) rfl (by kernel_rfl) (hN 55 (needs_get (by kernel_rfl))))]
            go_simp
            exact hK _ _ Later.refl rfl
          · intro hne a u lu hN hO K hK
            (try simp only [Nat.zero_add, Nat.reduceAdd] at hN hK)
            have e1 : a.tmps.getD 1 undef = .pointer (some ⟨w.heap.size, 0, none⟩) := (hO 1 (out_get (by kernel_rfl))).trans p1
            simp only [Array.getD_eq_getD_getElem?] at e1
            have c1 := HC u lu
            rw [if_pos (wanted_guard (j := 55) (d := 111) (b := true) rfl (by kernel_rfl) (hN 55 (needs_get (by kernel_rfl))))]
            go_simp
            exact hK _ _ Later.refl rfl
          · intro hne a u lu hN hO K hK
            (try simp only [Nat.zero_add, Nat.reduceAdd] at hN hK)
            have ed : a.tmps.getD 113 undef = fvId := hN 57 (needs_get (by kernel_rfl))
            simp only [Array.getD_eq_getD_getElem?] at ed
            rw [if_pos (wanted_guard (j := 55) (d := 111) (b := true) rfl (by kernel_rfl) (hN 55 (needs_get (by kernel_rfl))))]
            go_simp
            refine (awId_any 1 u).mono ?_
            rintro r u' ⟨rfl, hb⟩
            exact hK _ _ ⟨hb⟩ rfl
          · intro hne a u lu hN hO K hK
            (try simp only [Nat.zero_add, Nat.reduceAdd] at hN hK)
            have e1 : a.tmps.getD 1 undef = .pointer (some ⟨w.heap.size, 0, none⟩) := (hO 1 (out_get (by kernel_rfl))).trans p1
            simp only [Array.getD_eq_getD_getElem?] at e1
            have c1 := HC u lu
            rw [if_pos (wanted_guard (j := 55) (d := 111) (b := true) rfl (by kernel_rfl) (hN 55 (needs_get (by kernel_rfl))))]
            go_simp
            exact hK _ _ Later.refl rfl
          · intro hne a u lu hN hO K hK
            (try simp only [Nat.zero_add, Nat.reduceAdd] at hN hK)
            have ed : a.tmps.getD 115 undef = fvId := hN 59 (needs_get (by kernel_rfl))
            simp only [Array.getD_eq_getD_getElem?] at ed
            rw [if_pos (wanted_guard (j := 55) (d := 111) (b := true) rfl (by kernel_rfl) (hN 55 (needs_get (by kernel_rfl))))]
            go_simp
            refine (awId_any 1 u).mono ?_
            rintro r u' ⟨rfl, hb⟩
            exact hK _ _ ⟨hb⟩ rfl
          · intro hne a u lu hN hO K hK
            (try simp only [Nat.zero_add, Nat.reduceAdd] at hN hK)
            have e1 : a.tmps.getD 1 undef = .pointer (some ⟨w.heap.size, 0, none⟩) := (hO 1 (out_get (by kernel_rfl))).trans p1
            simp only [Array.getD_eq_getD_getElem?] at e1
            have c1 := HC u lu
            rw [if_pos (wanted_guard (j := 55) (d := 111) (b := true) rfl (by kernel_rfl) (hN 55 (needs_get (by kernel_rfl))))]
            go_simp
            exact hK _ _ Later.refl rfl
          · intro hne a u lu hN hO K hK
            (try simp only [Nat.zero_add, Nat.reduceAdd] at hN hK)
            have ed : a.tmps.getD 117 undef = fvId := hN 61 (needs_get (by kernel_rfl))
            simp only [Array.getD_eq_getD_getElem?] at ed
            rw [if_pos (wanted_guard (j := 55) (d := 111) (b := true) rfl (by kernel_rfl) (hN 55 (needs_get (by kernel_rfl))))]
            go_simp
            refine (awId_any 9 u).mono ?_
            rintro r u' ⟨rfl, hb⟩
            exact hK _ _ ⟨hb⟩ rfl
          · intro hne a u lu hN hO K hK
            (try simp only [Nat.zero_add, Nat.reduceAdd] at hN hK)
            have ed0 : a.tmps.getD 114 undef = vId 1 := hN 58 (needs_get (by kernel_rfl))
            simp only [Array.getD_eq_getD_getElem?] at ed0
            have ed1 : a.tmps.getD 116 undef = vId 1 := hN 60 (needs_get (by kernel_rfl))
            simp only [Array.getD_eq_getD_getElem?] at ed1
            have ed2 : a.tmps.getD 118 undef = vId 9 := hN 62 (needs_get (by kernel_rfl))
            simp only [Array.getD_eq_getD_getElem?] at ed2
            rw [if_pos (wanted_guard (j := 55) (d := 111) (b := true) rfl (by kernel_rfl) (hN 55 (needs_get (by kernel_rfl))))]
            go_simp
            exact hK _ _ inferInstance ⟨u.heap.size, rfl, heap_alloc_new _ _⟩
          · intro hne a u lu hN hO K hK
            (try simp only [Nat.zero_add, Nat.reduceAdd] at hN hK)
            have eg : a.tmps.getD 112 undef = .agg #[sl1 gn 5] := hN 56 (needs_get (by kernel_rfl))
            simp only [Array.getD_eq_getD_getElem?] at eg
            obtain ⟨gx, ex, hx⟩ : ∃ g, a.tmps.getD 119 undef = sl1 g 3 ∧ u.heap[g]? = some (.cells #[.int .i64 1, .int .i64 1, .int .i64 1, .int .i64 1, .int .i64 1, .int .i64 9] 46 (0, 0)) := hN 63 (needs_get (by kernel_rfl))
            simp only [Array.getD_eq_getD_getElem?] at ex
            rw [if_pos (wanted_guard (j := 55) (d := 111) (b := true) rfl (by kernel_rfl) (hN 55 (needs_get (by kernel_rfl))))]
            go_simp
            refine (exWords (HN u lu) (blk_slAt IDE.enc (fr := (0, 0)) (e := 46) hx [iD 1, iD 1, iD 9] rfl)).mono ?_
            rintro r u' ⟨rfl, hb⟩
            exact hK _ _ ⟨hb⟩ rfl
          · intro hne a u lu hN hO K hK
            (try simp only [Nat.zero_add, Nat.reduceAdd] at hN hK)
            have ed : a.tmps.getD 120 undef = .int .i64 4 := hN 64 (needs_get (by kernel_rfl))
            simp only [Array.getD_eq_getD_getElem?] at ed
            rw [if_pos (wanted_guard (j := 55) (d := 111) (b := true) rfl (by kernel_rfl) (hN 55 (needs_get (by kernel_rfl))))]
            go_simp
            exact hK _ _ Later.refl rfl
          · intro hne a u lu hN hO K hK
            (try simp only [Nat.zero_add, Nat.reduceAdd] at hN hK)
            have et0 : a.tmps.getD 111 undef = .bool true := hN 55 (needs_get (by kernel_rfl))
            simp only [Array.getD_eq_getD_getElem?] at et0
            have et1 : a.tmps.getD 121 undef = .bool true := hN 65 (needs_get (by kernel_rfl))
            simp only [Array.getD_eq_getD_getElem?] at et1
            rw [if_pos (by rfl)]
            go_simp
            exact hK _ _ Later.refl rfl
          · intro hne a u lu hN hO K hK
            (try simp only [Nat.zero_add, Nat.reduceAdd] at hN hK)
            have et0 : a.tmps.getD 122 undef = .bool true := hN 66 (needs_get (by kernel_rfl))
            simp only [Array.getD_eq_getD_getElem?] at et0
            rw [if_pos (by rfl)]
            go_simp
            exact hK _ _ Later.refl rfl
        · intro o ho; cases ho
        · intro _ a7 w7 hI7
          have e0 : a7.tmps.getD 0 undef = .bool true := hI7.got 67 (by decide) rfl
          have hd7 : a7.defers = [] := hI7.defers.trans hdf
          have l67 : Later w6 w7 := (show Later w6 w6.drew from inferInstance).trans hI7.later
          go_wp2_with fail
          refine bodyPost_ret (results_tmp rfl _ _ _) hd7 ⟨by rw [e0], hbw4.trans (l67.below.mono hbw4.size)⟩
  · intro h; exact absurd h (by decide)
end Go.Proofs.Ytffnogjgnpbjlaa
