/-
  Contracts of the functions of this seat that each theorem names: what a call returns, and that it writes nothing that was there before. The conditions stand in each theorem.
-/
import Derived.Test.YthigjlllhnajbaaC25LawApplies
import Derived.Test.YthigjlllhnajbaaC25Plain5
namespace Go.Proofs.Ythigjlllhnajbaa
open Go.RowKit
set_option maxRecDepth 100000 in
set_option maxHeartbeats 4000000 in
theorem lawAgain_any' (sA : Option Addr) (sC : Nat) (xs : List ScionE) (R S C : Int) (A : Option Addr) (c : Nat) (es : List ListedE) (w : World) (hx : SlAt ScionE.cells 12 w sA xs) (hs : SlAt ListedE.cells 3 w A es) (hl : es.length ≤ 1000000000000000) (hxl : xs.length ≤ 9223372036854775807) :
    Calls Try.prog 5 #[.slice sA xs.length sC, .agg #[.int .i64 R, .int .i64 S, .int .i64 C, .slice A es.length c]] w fun r w' => r = .returned (.bool true) ∧ Below w.heap.size w w' := by
  have HL : ∀ u [Later w u], ListV.at_ ⟨R, S, C, A, c, es⟩ u := fun u i => ⟨hs.below i.below, hl⟩
  have HX : ∀ u [Later w u], SlAt ScionE.cells 12 u sA xs := fun u i => hx.below i.below
  have HE : ∀ (n : Int) u [Later w u], Calls Try.prog 19 #[.agg #[.int .i64 R, .int .i64 S, .int .i64 C, .slice A es.length c], .int .u64 n] u fun r w' => r = .returned (.int .i64 (entryI es n)) ∧ Below u.heap.size u w' := fun n u i => entry_any ⟨R, S, C, A, c, es⟩ n u (HL u)
  go_enter Try.func5, Try.ntmps5
  go_upto_region 1 with fail
  refine wp_name ?_
  intro w0 hw0
  obtain ⟨B0, l0⟩ := box1 hw0
  clear hw0
  go_wp2_with (go_at_call 11; refine (awake_any _).mono ?_)
  rintro r w1 ⟨rfl, hb1⟩
  have l1 := later hb1
  by_cases hn : 30 < xs.length
  · have hn' : (30 : Int) < (xs.length : Int) := by omega
    go_wp2_with (go_at_call 11; refine (awake_any _).mono ?_)
    rintro r w2 ⟨rfl, hb2⟩
    have l2 := later hb2
    go_wp2_with fail
    go_ret
    exact ⟨rfl, below_of⟩
  have hn' : decide ((30 : Int) < (xs.length : Int)) = false := by simp; omega
  by_cases hm : 30 < es.length
  · have hm' : (30 : Int) < (es.length : Int) := by omega
    go_wp2_with (go_at_call 11; refine (awake_any _).mono ?_)
    rintro r w2 ⟨rfl, hb2⟩
    have l2 := later hb2
    go_wp2_with fail
    go_ret
    exact ⟨rfl, below_of⟩
  have hm' : decide ((30 : Int) < (es.length : Int)) = false := by simp; omega
  go_wp2_with (go_at_call 16; refine (apply_q sA sC xs ⟨R, S, C, A, c, es⟩ _ (HX _) (HL _) (by omega)).mono ?_)
  intro r w2 h2
  obtain ⟨K, M, A1, c1, A2, c2, hK, hM, rfl, ho1, ho2, hb2⟩ := h2
  have l2 := later hb2
  have S1 := hide (ho1.at_ ScionE.enc).2.2.later
  have S2 := hide (ho2.at_ ScionE.enc).2.2.later
  have Z1 : K.length ≤ 30 := by rw [hK.out]; exact Nat.le_trans kept_le (by omega)
  have Z2 : M.length ≤ 30 := by rw [hM.out]; exact Nat.le_trans rem_le (by omega)
  have hsum : (K.length : Int) + (M.length : Int) = (xs.length : Int) := by
    have := kept_rem_len (l := es) (r := C) (s := S) (xs := xs)
    have e1 : K.length = (keptL es C S xs).length := by rw [hK.out]
    have e2 : M.length = (remL es C S xs).length := by rw [hM.out]
    omega
  have Hsum := hide hsum
  clear hsum ho1 ho2
  go_wp2_with (go_at_call 16; refine (apply_q A1 c1 K ⟨R, S, C, A, c, es⟩ _ (S1.out _) (HL _) (by omega)).mono ?_)
  intro r w3 h3
  obtain ⟨K', M', A3, c3, A4, c4, hK', hM', rfl, ho3, ho4, hb3⟩ := h3
  have l3 := later hb3
  have S3 := hide (ho3.at_ ScionE.enc).2.2.later
  have E1 := hide (show K = K' by rw [hK'.out]; show K = keptL es C S K; rw [hK.out]; exact kept_again.symm)
  have hM0 : M' = [] := by rw [hM'.out]; show remL es C S K = []; rw [hK.out]; exact rem_again
  have Z3 : K'.length ≤ 30 := by rw [← E1.out]; exact Z1
  clear ho3 ho4 hM'
  subst hM0
  go_wp2_with (go_at_call 18; refine (sameScions_true A1 c1 K A3 c3 K' _ (S1.out _) (S3.out _) (by omega) (by omega) E1).mono ?_)
  rintro r w4 ⟨rfl, hb4⟩
  have l4 := later hb4
  have hsum' : ((K.length : Int) + (M.length : Int) != (xs.length : Int)) = false := by rw [Hsum.out]; simp
  have hsum2 : (K.length : Int) + (M.length : Int) = (xs.length : Int) := Hsum.out
  have HR := hide (show ∀ x ∈ M, findL es x.number = none ∧ x.out ≤ C ∧ x.inn ≤ S from fun x h => by rw [hM.out] at h; exact rem_mem h)
  have HK := hide (show ∀ x ∈ K, findL es x.number = none → ¬ (x.out ≤ C ∧ x.inn ≤ S) from fun x h => by rw [hK.out] at h; exact kept_mem h)
  clear HX hx hs S3 E1
  go_wp2_with fail
  clear hsum' hsum2
  go_loopw [10, 60] (fun _ i wr => ∃ k : Nat, k ≤ M.length ∧ i = .int .i64 k ∧ Below w4.heap.size w4 wr) (fun _ i _ => M.length - (intOf i).toNat)
  case atStart => exact ⟨0, by omega, rfl, Below.refl _ _⟩
  case round =>
    obtain ⟨k, hk, rfl, hbr⟩ := hrel
    have lr := later hbr
    by_cases hlt : k < M.length
    · obtain ⟨g, o, x, rfl, hx, C1⟩ := ScionE.get (S2.out wr) hlt
      obtain ⟨hf, h1, h2⟩ := HR.out x (List.mem_of_getElem? hx)
      have h1' : decide (C < x.out) = false := by simp; omega
      have h2' : decide (S < x.inn) = false := by simp; omega
      have HE' := HE x.number
      rcases entryI_find es x.number with ⟨he, -⟩ | ⟨j, e, -, -, hf'⟩
      rotate_left
      · rw [hf] at hf'; cases hf'
      simp only [he] at HE'
      clear hx hf he
      go_wp2_with (go_at_call 19; refine (HE' _).mono ?_)
      intro r w6 h6
      (first | (have hb6 := h6.2; have he6 := h6.1; clear h6; subst he6) | (intro hb6; subst h6))
      have l6 := later hb6
      go_wp2_with fail
      go_roundw
      case rel => exact ⟨k + 1, by omega, by go_num, below_of⟩
      case measure => simp [intOf]; omega
    · have hk' : k = M.length := by omega
      subst hk'
      go_wp2_with fail
      go_loopw [12, 86] (fun _ i wr2 => ∃ k : Nat, k ≤ K.length ∧ i = .int .i64 k ∧ Below w4.heap.size w4 wr2) (fun _ i _ => K.length - (intOf i).toNat)
      case atStart => exact ⟨0, by omega, rfl, below_of⟩
      case round =>
        obtain ⟨k, hk, rfl, hbr2⟩ := hrel
        have lr2 := later hbr2
        clear lr
        by_cases hlt : k < K.length
        · obtain ⟨g, o, x, rfl, hx, C1⟩ := ScionE.get (S1.out wr) hlt
          have hkm := HK.out x (List.mem_of_getElem? hx)
          have HE' := HE x.number
          rcases entryI_find es x.number with ⟨he, hf⟩ | ⟨j, e, he, -, hf⟩
          · simp only [he] at HE'
            have hkm' := hkm hf
            clear hx hf he hkm
            by_cases h1 : x.out ≤ C
            · have h2 : S < x.inn := by omega
              have h2' : decide (x.inn ≤ S) = false := by simp; omega
              clear hkm'
              go_upto_region 16 with fail
              refine wp_name ?_
              intro w5 hw5
              have l5 := later_name' hw5 (inferInstance : Later wr _)
              have Bx : Boxed w5 wr.heap.size x.arr 43 := boxed (by rw [← hw5]; simp only [heap_alloc_if, World.size_alloc]; repeat (first | rw [if_pos trivial] | rw [if_neg (by omega)] | rw [if_pos (by omega)]); try rfl)
              clear hw5
              go_wp2_with (go_at_call 19; refine (HE' _).mono ?_)
              intro r w6 h6
              (first | (have hb6 := h6.2; have he6 := h6.1; clear h6; subst he6) | (intro hb6; subst h6))
              have l6 := later hb6
              go_wp2_with fail
              go_roundw
              case rel => exact ⟨k + 1, by omega, by go_num, below_of⟩
              case measure => simp [intOf]; omega
            · have h1 : C < x.out := by omega
              have h1' : decide (x.out ≤ C) = false := by simp; omega
              clear hkm'
              go_upto_region 16 with fail
              refine wp_name ?_
              intro w5 hw5
              have l5 := later_name' hw5 (inferInstance : Later wr _)
              have Bx : Boxed w5 wr.heap.size x.arr 43 := boxed (by rw [← hw5]; simp only [heap_alloc_if, World.size_alloc]; repeat (first | rw [if_pos trivial] | rw [if_neg (by omega)] | rw [if_pos (by omega)]); try rfl)
              clear hw5
              go_wp2_with (go_at_call 19; refine (HE' _).mono ?_)
              intro r w6 h6
              (first | (have hb6 := h6.2; have he6 := h6.1; clear h6; subst he6) | (intro hb6; subst h6))
              have l6 := later hb6
              go_wp2_with fail
              go_roundw
              case rel => exact ⟨k + 1, by omega, by go_num, below_of⟩
              case measure => simp [intOf]; omega
          · simp only [he] at HE'
            have hj : decide ((j : Int) < 0) = false := by simp
            clear hx hf he hkm
            go_upto_region 16 with fail
            refine wp_name ?_
            intro w5 hw5
            have l5 := later_name' hw5 (inferInstance : Later wr _)
            have Bx : Boxed w5 wr.heap.size x.arr 43 := boxed (by rw [← hw5]; simp only [heap_alloc_if, World.size_alloc]; repeat (first | rw [if_pos trivial] | rw [if_neg (by omega)] | rw [if_pos (by omega)]); try rfl)
            clear hw5
            go_wp2_with (go_at_call 19; refine (HE' _).mono ?_)
            intro r w6 h6
            (first | (have hb6 := h6.2; have he6 := h6.1; clear h6; subst he6) | (intro hb6; subst h6))
            have l6 := later hb6
            go_wp2_with fail
            go_roundw
            case rel => exact ⟨k + 1, by omega, by go_num, below_of⟩
            case measure => simp [intOf]; omega
        · have hk' : k = K.length := by omega
          subst hk'
          go_wp2_with fail
          go_ret
          exact ⟨rfl, below_of⟩
theorem lawAgain_any (A : Option Addr) (c : Nat) (xs : List ScionE) (L : ListV) (w : World) (hx : SlIn ScionE.cells 12 80 (fun _ e => e.wf) w A c xs) (hL : L.in_ w) :
    Calls Try.prog 5 #[.slice A xs.length c, L.v] w fun r w' => r = .returned (.bool true) ∧ Below w.heap.size w w' :=
  lawAgain_any' A c xs L.round L.sent L.received L.A L.c L.entries w hx.at_ hL.at_.s hL.at_.sl (by have := hx.len; omega)
end Go.Proofs.Ythigjlllhnajbaa
