/-
  Contracts of the functions of this seat that each theorem names: what a call returns, and that it writes nothing that was there before. The conditions stand in each theorem.
-/
import Derived.Test.YthigjlllhnajbaaWireRef
import Derived.Test.YthigjlllhnajbaaC25Encode
namespace Go.Proofs.Ythigjlllhnajbaa
open Go.RowKit
set_option maxRecDepth 100000 in
set_option maxHeartbeats 2000000 in
theorem refEncode_any (R S C : Int) (sA : Option Addr) (sC : Nat) (es : List ListedE) (w : World) (hs : SlAt ListedE.cells 3 w sA es) (hl : es.length ≤ 10000000) (hR : I64r R) (hS : I64r S) (hC : I64r C) (hr : ∀ e ∈ es, e.Rng) :
    Calls Try.prog 31 #[.agg #[.int .i64 R, .int .i64 S, .int .i64 C, .slice sA es.length sC]] w (BPost (encL R S C es) w) := by
  have HL : ∀ u [Later w u], SlAt ListedE.cells 3 u sA es := fun u i => hs.below i.below
  have hsl : es.length ≤ 9223372036854775807 := by omega
  have hs64 : (es.length : Int) % 18446744073709551616 = (es.length : Int) := by omega
  have hH := encH_len hR hS hC hl
  have h1 := intL_len hR.1 hR.2
  have h2 := intL_len hS.1 hS.2
  have h3 := intL_len hC.1 hC.2
  go_enter Try.func31, Try.ntmps31
  go_upto_region 1 with fail
  refine wp_name ?_
  intro w0 hw0
  obtain ⟨B0, l0⟩ := box1 hw0
  clear hw0
  go_wp2_with (go_at_call 54; refine (refInt_any none 0 [] R _ SlAt.nil (by simp) hR.1 hR.2).mono ?_)
  intro r w1 hh1
  obtain ⟨q1, A1, c1, hq1, rfl, S1, hb1⟩ := hh1
  have l1 := later hb1
  have hl1 : q1.length ≤ 9 := by rw [hq1.out]; simpa using h1
  go_wp2_with (go_at_call 54; refine (refInt_any A1 c1 q1 S _ (S1.later _) (by omega) hS.1 hS.2).mono ?_)
  intro r w2 hh2
  obtain ⟨q2, A2, c2, hq2, rfl, S2, hb2⟩ := hh2
  have l2 := later hb2
  have hl2 : q2.length ≤ 18 := by rw [hq2.out, List.length_append]; omega
  go_wp2_with (go_at_call 54; refine (refInt_any A2 c2 q2 C _ (S2.later _) (by omega) hC.1 hC.2).mono ?_)
  intro r w3 hh3
  obtain ⟨q3, A3, c3, hq3, rfl, S3, hb3⟩ := hh3
  have l3 := later hb3
  have hl3 : q3.length ≤ 27 := by rw [hq3.out, List.length_append]; omega
  go_wp2_with (go_at_call 55; refine (refUint_any A3 c3 q3 (es.length : Int) _ (S3.later _) (by omega) (by omega) (by omega)).mono ?_)
  intro r w4 hh4
  obtain ⟨q4, A4, c4, hq4, rfl, S4, hb4⟩ := hh4
  have l4 := later hb4
  have hb04 : Below w0.heap.size w0 w4 := below_of
  have hq4e := hide (show q4 = encH R S C es.length by rw [hq4.out, hq3.out, hq2.out, hq1.out]; simp [encH])
  clear hq1 hq2 hq3 hq4 S1 S2 S3
  go_wp2_with fail
  go_loopw [3, 4, 5] (fun v i _ wr => ∃ (k : Nat) (q : List Int) (A : Option Addr) (c : Nat), k ≤ es.length ∧ v = .slice A q.length c ∧ i = .int .i64 k ∧ q = encH R S C es.length ++ (es.take k).flatMap encE ∧ SlAt U8.cells 1 wr A q ∧ Below w0.heap.size w0 wr) (fun _ i _ _ => es.length - (intOf i).toNat)
  case atStart => exact ⟨0, q4, A4, c4, by omega, rfl, rfl, by simpa using hq4e.out, S4, hb04⟩
  case round =>
    obtain ⟨k, q, A, c, hk, rfl, rfl, hq, hsq, hbr⟩ := hrel
    have lr := later hbr
    by_cases hlt : k < es.length
    · obtain ⟨g1, o1, x, rfl, hx, C1⟩ := ListedE.get (HL wr) hlt
      have hxr := hr x (List.mem_of_getElem? hx)
      have HT := hide (flat_take hx)
      have hql : q.length ≤ 200000000 := by
        rw [hq]
        have := flat_len (es := es.take k) fun e he => hr e (List.mem_of_mem_take he)
        rw [List.length_take] at this
        simp only [List.length_append]; omega
      have hu := uintL_len hxr.n1
      have hi := intL_len hxr.d0 hxr.d1
      have Hq := hide hq
      clear hq hx
      go_upto_region 9 with fail
      refine wp_name ?_
      intro w5 hw5
      have l5 := later_name' hw5 (inferInstance : Later wr _)
      have b5 : w5.heap[wr.heap.size]? = some (.cells x.arr 64 (0, 0)) := (by rw [← hw5]; simp only [heap_alloc_if, World.size_alloc]; repeat (first | rw [if_pos trivial] | rw [if_neg (by omega)] | rw [if_pos (by omega)]); try rfl)
      clear hw5
      have q0 := blk_cell b5 0
      have q1 := blk_cell b5 1
      have q2 := blk_cell b5 2
      simp at q0 q1 q2
      have B5 := boxed b5
      have SQ := hsq.later
      go_region_held3 (fun w' => ∀ b [Later b w5], Later b w') ((intro b _; infer_instance))
        ((first
          | (go_at_call 56; refine (refBool_any A7 c7 r2 x.weak _ (S7.later _) (by omega)).mono ?_; intro r w8 hh8; obtain ⟨r3, A8, c8, hr3, rfl, S8, hb8⟩ := hh8; have l8 := later hb8)
          | (go_at_call 54; refine (refInt_any A6 c6 r1 x.distance _ (S6.later _) (by omega) hxr.d0 hxr.d1).mono ?_; intro r w7 hh7; obtain ⟨r2, A7, c7, hr2, rfl, S7, hb7⟩ := hh7; have l7 := later hb7; have hlr2 : r2.length ≤ 200000100 := by (rw [hr2.out, List.length_append]; omega))
          | (go_at_call 55; refine (refUint_any A c q x.number _ (SQ _) (by omega) hxr.n0 hxr.n1).mono ?_; intro r w6 hh6; obtain ⟨r1, A6, c6, hr1, rfl, S6, hb6⟩ := hh6; have l6 := later hb6; have hlr1 : r1.length ≤ 200000050 := by (rw [hr1.out, List.length_append]; omega))))
      have hb08 : Below w0.heap.size w0 w8 := below_of
      go_wp2_with fail
      go_roundw
      case rel => exact ⟨k + 1, r3, A8, c8, by omega, rfl, by go_num, by rw [hr3.out, hr2.out, hr1.out, Hq.out, HT.out]; simp only [encE, List.append_assoc], S8, hb08⟩
      case measure => simp [intOf]; omega
    · have hk' : k = es.length := by omega
      subst hk'
      have Hq := hide (show q = encL R S C es by rw [hq, List.take_length]; rfl)
      clear hq
      go_wp2_with fail
      go_ret
      exact ⟨q, A, c, Hq, rfl, hsq, below_of⟩
end Go.Proofs.Ythigjlllhnajbaa
