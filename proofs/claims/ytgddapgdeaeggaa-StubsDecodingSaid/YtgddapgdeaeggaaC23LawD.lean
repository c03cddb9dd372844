/-
  Contracts of the functions of this seat that each theorem names: what a call returns, and that it writes nothing that was there before. The conditions stand in each theorem.
-/
import Derived.Test.YtgddapgdeaeggaaC23Dec2
import Derived.Test.YtgddapgdeaeggaaC23Awake
namespace Go.Proofs.Ytgddapgdeaeggaa
open Go.RowKit
set_option maxRecDepth 100000 in
set_option maxHeartbeats 8000000 in
theorem decoding_any (bA : Option Addr) (bC : Nat) (b : List Int) (w : World) (hs : SlAt U8.cells 1 w bA b) (hby : Bytes b) (hl : b.length ≤ 9223372036854775807) : Calls Try.prog 8 #[.slice bA b.length bC] w fun r w' => r = .returned (.bool true) ∧ Below w.heap.size w w' := by
  have HB : ∀ u [Later w u], SlAt U8.cells 1 u bA b := fun u i => hs.below i.below
  go_enter Try.func8, Try.ntmps8
  by_cases hlen : (400 : Int) < (b.length : Int)
  · go_wp2_with (go_at_call 10; refine (awake_any _).mono ?_; rintro r w1 ⟨rfl, hb1⟩; have l1 := later hb1)
    go_ret
    exact ⟨rfl, below_of⟩
  have hbl : b.length ≤ 400 := by omega
  go_wp2_with (go_at_call 10; refine (awake_any _).mono ?_; rintro r w1 ⟨rfl, hb1⟩; have l1 := later hb1)
  go_wp2_with (go_at_call 25; refine (decode_any bA bC b _ (HB _) (by omega) hby).mono ?_)
  rintro r w2 ⟨⟨p, g, l, rfl, hp, hg, hT, hd⟩ | ⟨rfl, -⟩, hb2⟩
  rotate_left
  · have l2 := later hb2
    go_wp2_with fail
    go_ret
    exact ⟨rfl, below_of⟩
  · have l2 := later hb2
    have hll : l.length ≤ 400 := Nat.le_trans hd.out.2.2.1 hbl
    have hve := hide (fun e (he : e ∈ l) => And.intro (hd.out.1.valid e he) (hd.out.2.1 e he))
    obtain ⟨q, hq1, hq2, hq3⟩ := hd.out.2.2.2.2
    have hqb := hide hq3
    have hqp := hide (And.intro hq1 hq2)
    clear hq1 hq2 hq3
    have hcb : ∀ u [Later w u], (convert 55 9 (.slice bA b.length bC)).run Try.prog u = .ok (.string (strB b)) u := fun u i => conv_bytes bA bC b u (HB u)
    go_upto_region 8 with fail
    refine wp_name ?_
    intro w3 hw3
    have l3 := later_name' hw3 (inferInstance : Later w2 _)
    clear hw3
    have hT3 := hT.later w3
    refine wp_region_held_drew (S := fun w' => ∀ b [Later b w3], Later b w') (by kernel_rfl) (by intro b _; infer_instance) (fun hHeld => ?_)
    refine wpAnyH_take (i := 0) (oi := _) (v := ?_) rfl (by kernel_rfl) (by kernel_rfl) (by kernel_rfl) (fun _ _ _ h => h) (Or.inl ⟨by rfl, ?_⟩) (by assumption) ?_
    rotate_left 1
    · (intro wy hSw; (try dsimp only at hSw); go_simp; try with_reducible rfl)
    (try simp only [Act.put, List.setIfInBounds_toArray, List.set_cons_zero, List.set_cons_succ])
    refine wpAnyH_take (i := 1) (oi := _) (v := ?_) rfl (by kernel_rfl) (by kernel_rfl) (by kernel_rfl) (fun _ _ _ h => h) (Or.inl ⟨by rfl, ?_⟩) (by assumption) ?_
    rotate_left 1
    · (intro wy hSw; (try dsimp only at hSw); go_simp; try with_reducible rfl)
    (try simp only [Act.put, List.setIfInBounds_toArray, List.set_cons_zero, List.set_cons_succ])
    refine wpAnyH_take (i := 2) (oi := _) (v := ?_) rfl (by kernel_rfl) (by kernel_rfl) (by kernel_rfl) (fun _ _ _ h => h) (Or.inl ⟨by rfl, ?_⟩) (by assumption) ?_
    rotate_left 1
    · (intro wy hSw; (try dsimp only at hSw); go_simp; try with_reducible rfl)
    (try simp only [Act.put, List.setIfInBounds_toArray, List.set_cons_zero, List.set_cons_succ])
    refine wpAnyH_take (i := 3) (oi := _) (v := ?_) rfl (by kernel_rfl) (by kernel_rfl) (by kernel_rfl) (fun _ _ _ h => h) (Or.inl ⟨by rfl, ?_⟩) (by assumption) ?_
    rotate_left 1
    · (intro wy hSw; (try dsimp only at hSw); go_simp; try with_reducible rfl)
    (try simp only [Act.put, List.setIfInBounds_toArray, List.set_cons_zero, List.set_cons_succ])
    refine wpAnyH_take (i := 6) (oi := _) (v := ?_) rfl (by kernel_rfl) (by kernel_rfl) (by kernel_rfl) (fun _ _ _ h => h) (Or.inl ⟨by rfl, ?_⟩) (by assumption) ?_
    rotate_left 1
    · (intro wy hSw; (try dsimp only at hSw); go_simp; try with_reducible rfl)
    (try simp only [Act.put, List.setIfInBounds_toArray, List.set_cons_zero, List.set_cons_succ])
    refine wpAnyH_take (i := 7) (oi := _) (v := ?_) rfl (by kernel_rfl) (by kernel_rfl) (by kernel_rfl) (fun _ _ _ h => h) (Or.inl ⟨by rfl, ?_⟩) (by assumption) ?_
    rotate_left 1
    · (intro wy hSw; (try dsimp only at hSw); go_simp; try with_reducible rfl)
    (try simp only [Act.put, List.setIfInBounds_toArray, List.set_cons_zero, List.set_cons_succ])
    refine wpAnyH_ready (rs := [4]) (by kernel_rfl) (by simp) ?_
    refine AllReadyH.cons (o := _) rfl (fun K9 hK9 => ?_) AllReadyH.nil
    go_simp
    refine (encode_any p g l _ (hT3.later _) (by omega) hve.out).mono ?_
    rintro r w6 ⟨q0, qb, A6, c6, hq6, rfl, hc6, hm6, hs6, hb6⟩
    have l6 := later hb6
    have hqe := hide (show qb = b by rw [hq6.out.2.2, sortedS_unique hq6.out.2.1 hqp.out.2 (hq6.out.1.trans hqp.out.1.symm)]; exact hqb.out)
    have hca : ∀ u [Later w6 u], (convert 55 9 (.slice A6 qb.length c6)).run Try.prog u = .ok (.string (strB b)) u := fun u i => by
      have h := conv_bytes A6 c6 qb u (hs6.later u)
      rw [h, hqe.out]
    refine hK9.out _ _ (by intro b _; infer_instance) (fun hHeld => ?_)
    clear hK9 K9
    (try simp only [Act.put, List.setIfInBounds_toArray, List.set_cons_zero, List.set_cons_succ])
    refine wpAnyH_ready (rs := [5]) (by kernel_rfl) (by simp) ?_
    refine AllReadyH.cons (o := _) rfl (fun K9 hK9 => ?_) AllReadyH.nil
    go_simp
    refine hK9.out _ _ (by intro b _; infer_instance) (fun hHeld => ?_)
    clear hK9 K9
    (try simp only [Act.put, List.setIfInBounds_toArray, List.set_cons_zero, List.set_cons_succ])
    refine wpAnyH_take (i := 8) (oi := _) (v := ?_) rfl (by kernel_rfl) (by kernel_rfl) (by kernel_rfl) (fun _ _ _ h => h) (Or.inl ⟨by rfl, ?_⟩) (by assumption) ?_
    rotate_left 1
    · (intro wy hSw; (try dsimp only at hSw); go_simp; try with_reducible rfl)
    (try simp only [Act.put, List.setIfInBounds_toArray, List.set_cons_zero, List.set_cons_succ])
    refine wpAnyH_take (i := 9) (oi := _) (v := ?_) rfl (by kernel_rfl) (by kernel_rfl) (by kernel_rfl) (fun _ _ _ h => h) (Or.inl ⟨by rfl, ?_⟩) (by assumption) ?_
    rotate_left 1
    · (intro wy hSw; (try dsimp only at hSw); go_simp; try with_reducible rfl)
    (try simp only [Act.put, List.setIfInBounds_toArray, List.set_cons_zero, List.set_cons_succ])
    refine wpAnyH_done (by kernel_rfl) ?_ _
    go_wp2_with (go_at_call 12; refine (list_any p g l _ (hT3.later _) (by omega)).mono ?_; rintro r w7 ⟨q7, B7, D7, hq7, rfl, ho7, hb7⟩; have l7 := later hb7)
    have HQ : ∀ u [Later w7 u], SlAt StubE.cells 12 u B7 q7 := fun u i => (ho7.at_ StubE.enc).2.2.below i.below
    have hql : q7.length ≤ 400 := by rw [hq7.out.1.length_eq]; exact hll
    have hqv := hide (fun e (he : e ∈ q7) => hd.out.1.valid e (hq7.out.1.mem_iff.1 he))
    go_loopw [6] (fun iv wr => ∃ k : Nat, k ≤ q7.length ∧ iv = .int .i64 k ∧ Below w7.heap.size w7 wr) (fun iv _ => q7.length - (intOf iv).toNat)
    case atStart => exact ⟨0, by omega, rfl, Below.refl _ _⟩
    case round =>
      obtain ⟨i, hi, rfl, hbr⟩ := hrel
      have lr := later hbr
      by_cases hlt : i < q7.length
      · obtain ⟨b1, o1, y, rfl, hy, C1⟩ := StubE.get (HQ wr) hlt
        have hvy := hide (hqv.out y (List.mem_of_getElem? hy))
        have HV : ∀ u, Calls Try.prog 17 #[y.v] u fun r w' => r = .returned (.bool true) ∧ Below u.heap.size u w' := fun u => by have := refValid_any y u; rw [hvy.out] at this; exact this
        clear hy
        go_wp2_with (go_at_call 17; refine (HV _).mono ?_; rintro r w8 ⟨rfl, hb8⟩; have l8 := later hb8)
        go_roundw
        case rel => exact ⟨i + 1, by omega, by go_num, hbr.trans (hb8.mono hbr.size)⟩
        case measure => simp [intOf]; omega
      · have hk' : i = q7.length := by omega
        subst hk'
        go_wp2_with fail
        go_ret
        exact ⟨rfl, below_of⟩
end Go.Proofs.Ytgddapgdeaeggaa
