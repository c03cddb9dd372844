/-
  Contracts of the functions of this seat that each theorem names: what a call returns, and that it writes nothing that was there before. The conditions stand in each theorem.
-/
import Derived.Test.YthigjlllhnajbaaGrpC
import Derived.Test.YthigjlllhnajbaaC25Plain2
namespace Go.Proofs.Ythigjlllhnajbaa
open Go.RowKit
structure ListedE.Rng (e : ListedE) : Prop where
  n0 : 0 ≤ e.number
  n1 : e.number < 18446744073709551616
  d0 : -9223372036854775808 ≤ e.distance
  d1 : e.distance < 9223372036854775808
abbrev I64r (n : Int) : Prop := -9223372036854775808 ≤ n ∧ n < 9223372036854775808
def encE (e : ListedE) : List Int := uintL e.number ++ intL e.distance ++ boolL e.weak
def encH (R S C : Int) (n : Nat) : List Int := intL R ++ intL S ++ intL C ++ uintL (n : Int)
def encL (R S C : Int) (es : List ListedE) : List Int := encH R S C es.length ++ es.flatMap encE
theorem encE_len {e : ListedE} (h : e.Rng) : (encE e).length ≤ 19 := by
  have h1 := uintL_len h.n1
  have h2 := intL_len h.d0 h.d1
  simp only [encE, boolL, List.length_append, List.length_singleton]; omega
theorem encH_len {R S C : Int} {n : Nat} (hR : I64r R) (hS : I64r S) (hC : I64r C) (hn : n ≤ 10000000) : (encH R S C n).length ≤ 36 := by
  have h1 := intL_len hR.1 hR.2
  have h2 := intL_len hS.1 hS.2
  have h3 := intL_len hC.1 hC.2
  have h4 := uintL_len (n := (n : Int)) (by omega)
  simp only [encH, List.length_append]; omega
theorem flat_len : ∀ {es : List ListedE}, (∀ e ∈ es, e.Rng) → (es.flatMap encE).length ≤ es.length * 19
  | [], _ => by simp
  | e :: es, h => by
    have h1 := encE_len (h e (List.mem_cons_self ..))
    have h2 := flat_len (es := es) fun x hx => h x (List.mem_cons_of_mem _ hx)
    simp only [List.flatMap_cons, List.length_append, List.length_cons]; omega
theorem flat_take {es : List ListedE} {k : Nat} {x : ListedE} (hx : es[k]? = some x) : (es.take (k + 1)).flatMap encE = (es.take k).flatMap encE ++ encE x := by
  rw [take_snoc_get hx, List.flatMap_append]; simp
set_option maxRecDepth 100000 in
set_option maxHeartbeats 2000000 in
theorem encode_any' (R S C : Int) (sA : Option Addr) (sC : Nat) (es : List ListedE) (w : World) (hs : SlAt ListedE.cells 3 w sA es) (hl : es.length ≤ 10000000) (hR : I64r R) (hS : I64r S) (hC : I64r C) (hr : ∀ e ∈ es, e.Rng) :
    Calls Try.prog 28 #[.agg #[.int .i64 R, .int .i64 S, .int .i64 C, .slice sA es.length sC]] w fun r w' => ∃ A c, r = .returned (.slice A (encL R S C es).length c) ∧ Own U8.cells 1 5 w.heap.size w' (.slice A (encL R S C es).length c) (encL R S C es) ∧ Below w.heap.size w w' := by
  have HL : ∀ u [Later w u], SlAt ListedE.cells 3 u sA es := fun u i => hs.below i.below
  have hsl : es.length ≤ 9223372036854775807 := by omega
  have hs64 : (es.length : Int) % 18446744073709551616 = (es.length : Int) := by omega
  have hH := encH_len hR hS hC hl
  have h1 := intL_len hR.1 hR.2
  have h2 := intL_len hS.1 hS.2
  have h3 := intL_len hC.1 hC.2
  go_enter Try.func28, Try.ntmps28
  go_upto_region 1 with fail
  refine wp_name ?_
  intro w0 hw0
  obtain ⟨B0, l0⟩ := box1 hw0
  clear hw0
  go_region_held3 (fun w' => ∀ b [Later b w0], Later b w') ((intro b _; infer_instance))
    ((first
      | (go_at_call 45; refine (appendInt_q C (l := q2) (ho2.later _) (by rw [hq2.out]; simp only [List.length_append, hq1.out, List.nil_append]; omega) (below_of (b := w0)).size hC.1 hC.2).mono ?_; rintro r w3 ⟨q3, A3, c3, hq3, rfl, ho3, hb3, -⟩; have l3 := later_base (W := w0) hb3)
      | (go_at_call 45; refine (appendInt_q S (l := q1) (ho1.later _) (by rw [hq1.out]; simp only [List.nil_append]; omega) (below_of (b := w0)).size hS.1 hS.2).mono ?_; rintro r w2 ⟨q2, A2, c2, hq2, rfl, ho2, hb2, -⟩; have l2 := later_base (W := w0) hb2)
      | (go_at_call 45; refine (appendInt_q R (l := []) (base := w0.heap.size) Own.nil (by simp) (below_of (b := w0)).size hR.1 hR.2).mono ?_; rintro r w1 ⟨q1, A1, c1, hq1, rfl, ho1, hb1, -⟩; have l1 := later_base (W := w0) hb1)))
  have hq3l : q3.length ≤ 27 := by rw [hq3.out, hq2.out, hq1.out]; simp only [List.length_append, List.nil_append]; omega
  go_wp2_with (go_at_call 46; refine (appendUint_q (es.length : Int) (l := q3) (ho3.later _) (by omega) (below_of (b := w0)).size (by omega) (by omega)).mono ?_)
  rintro r w4 ⟨q4, A4, c4, hq4, rfl, ho4, hb4, -⟩
  have l4 := later_base (W := w0) hb4
  have hb04 : Below w0.heap.size w0 w4 := below_of
  have hq4e := hide (show q4 = encH R S C es.length by rw [hq4.out, hq3.out, hq2.out, hq1.out]; simp [encH])
  clear hq1 hq2 hq3 hq4 ho1 ho2 ho3
  go_wp2_with fail
  go_loopw [3, 5, 24] (fun v _ i wr => ∃ (k : Nat) (q : List Int) (A : Option Addr) (c : Nat), k ≤ es.length ∧ v = .slice A q.length c ∧ i = .int .i64 k ∧ q = encH R S C es.length ++ (es.take k).flatMap encE ∧ Own U8.cells 1 5 w0.heap.size wr (.slice A q.length c) q ∧ Below w0.heap.size w0 wr) (fun _ _ i _ => es.length - (intOf i).toNat)
  case atStart => exact ⟨0, q4, A4, c4, by omega, rfl, rfl, by simpa using hq4e.out, ho4, hb04⟩
  case round =>
    obtain ⟨k, q, A, c, hk, rfl, rfl, hq, ho, hbr⟩ := hrel
    have lr := later hbr
    by_cases hlt : k < es.length
    · obtain ⟨g1, o1, x, rfl, hx, C1⟩ := ListedE.get (HL wr) hlt
      have hxr := hr x (List.mem_of_getElem? hx)
      have HT := hide (flat_take hx)
      have hql : q.length ≤ 200000000 := by
        rw [hq]
        have := flat_len (es := es.take k) fun e he => hr e (List.mem_of_mem_take he)
        rw [List.length_take] at this
        simp only [List.length_append]; omega
      have hel := encE_len hxr
      have hu := uintL_len hxr.n1
      have hi := intL_len hxr.d0 hxr.d1
      have Hq := hide hq
      clear hq hx
      go_upto_region 6 with fail
      refine wp_name ?_
      intro w5 hw5
      have l5 := later_name' hw5 (inferInstance : Later wr _)
      have b5 : w5.heap[wr.heap.size]? = some (.cells x.arr 64 (0, 0)) := (by rw [← hw5]; simp only [heap_alloc_if, World.size_alloc]; repeat (first | rw [if_pos trivial] | rw [if_neg (by omega)] | rw [if_pos (by omega)]); try rfl)
      have hb5 : Below wr.heap.size wr w5 := below_of
      have hne5 : (Value.slice A q.length c).ownBlock ≠ some wr.heap.size := fun e => absurd (World.ownsRow.lt ho _ e).2 (by omega)
      clear hw5
      have q0 := blk_cell b5 0
      have q1 := blk_cell b5 1
      have q2 := blk_cell b5 2
      simp at q0 q1 q2
      go_region_held3 (fun w' => w'.cell? ⟨wr.heap.size, 0, none⟩ = some (.int .u64 x.number) ∧ w'.cell? ⟨wr.heap.size, 1, none⟩ = some (.int .i64 x.distance) ∧ w'.cell? ⟨wr.heap.size, 2, none⟩ = some (.bool x.weak)) (first | go_keep)
        ((first
          | (go_at_call 47; refine (appendBool_q x.weak (l := r2) (ho7.later _) (by rw [hr2.out, hr1.out]; simp only [List.length_append]; omega) (below_of (b := w0)).size).mono ?_; rintro r w8 ⟨r3, A8, c8, hr3, rfl, ho8, hb8, hs8⟩; have l8 := later_base (W := w0) hb8; obtain ⟨b8, hne8⟩ := hs8.boxed b7 hne7; have p0 := blk_cell b8 0; have p1 := blk_cell b8 1; have p2 := blk_cell b8 2; simp at p0 p1 p2)
          | (go_at_call 45; refine (appendInt_q x.distance (l := r1) (ho6.later _) (by rw [hr1.out]; simp only [List.length_append]; omega) (below_of (b := w0)).size hxr.d0 hxr.d1).mono ?_; rintro r w7 ⟨r2, A7, c7, hr2, rfl, ho7, hb7, hs7⟩; have l7 := later_base (W := w0) hb7; obtain ⟨b7, hne7⟩ := hs7.boxed b6 hne6; have p0 := blk_cell b7 0; have p1 := blk_cell b7 1; have p2 := blk_cell b7 2; simp at p0 p1 p2)
          | (go_at_call 46; refine (appendUint_q x.number (l := q) (ho.later _) (by omega) (below_of (b := w0)).size hxr.n0 hxr.n1).mono ?_; rintro r w6 ⟨r1, A6, c6, hr1, rfl, ho6, hb6, hs6⟩; have l6 := later_base (W := w0) hb6; obtain ⟨b6, hne6⟩ := hs6.boxed b5 hne5; have p0 := blk_cell b6 0; have p1 := blk_cell b6 1; have p2 := blk_cell b6 2; simp at p0 p1 p2)))
      have hb08 : Below w0.heap.size w0 w8 := below_of
      go_wp2_with fail
      go_roundw
      case rel => exact ⟨k + 1, r3, A8, c8, by omega, rfl, by go_num, by rw [hr3.out, hr2.out, hr1.out, Hq.out, HT.out]; simp only [encE, List.append_assoc], ho8, hb08⟩
      case measure => simp [intOf]; omega
    · have hk' : k = es.length := by omega
      subst hk'
      have Hq := hide (show q = encL R S C es by rw [hq, List.take_length]; rfl)
      clear hq
      go_wp2_with fail
      go_ret
      refine ⟨A, c, by rw [← Hq.out]; rfl, ?_, below_of⟩
      rw [← Hq.out]
      exact ho.mono (l0 w).below.size
theorem encode_any (L : ListV) (w : World) (hL : L.at_ w) (hl : L.entries.length ≤ 10000000) (hR : I64r L.round) (hS : I64r L.sent) (hC : I64r L.received) (hr : ∀ e ∈ L.entries, e.Rng) :
    Calls Try.prog 28 #[L.v] w fun r w' => ∃ A c, r = .returned (.slice A (encL L.round L.sent L.received L.entries).length c) ∧ Own U8.cells 1 5 w.heap.size w' (.slice A (encL L.round L.sent L.received L.entries).length c) (encL L.round L.sent L.received L.entries) ∧ Below w.heap.size w w' :=
  encode_any' L.round L.sent L.received L.A L.c L.entries w hL.s hl hR hS hC hr
end Go.Proofs.Ythigjlllhnajbaa
