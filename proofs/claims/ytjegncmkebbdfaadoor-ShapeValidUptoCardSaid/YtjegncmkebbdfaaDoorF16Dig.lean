/-
  Contracts of the functions of this seat that each theorem names: what a call returns, and that it writes nothing that was there before. The conditions stand in each theorem.
-/
import Derived.Test.YtjegncmkebbdfaaDoorF16Fmt
import Derived.Test.YtjegncmkebbdfaaDoorF16Awk
import Derived.Laws.BytesArg
set_option linter.unusedSimpArgs false
set_option linter.unusedVariables false
namespace Go.Proofs.YtjegncmkebbdfaaDoor
open Go.RowKit
attribute [local go_sem] Oper.semAt_some
attribute [local simp] heap_drew
def byC (x : Int) : List Value := [.int .u8 x]
theorem byC_enc : Enc byC 1 := ⟨fun _ => rfl, fun x u hu => by simp only [byC, List.mem_cons, List.not_mem_nil, or_false] at hu; subst hu; rfl, by decide⟩
theorem conv_byte {w : World} {b o c : Nat} {x : Int} (h : w.cell? ⟨b, o, none⟩ = some (.int .u8 x)) : (convert 90 9 (.slice (some ⟨b, o, none⟩) 1 c)).run Tryd.prog w = .ok (.string (bs [UInt8.ofNat x.toNat])) w :=
  run_convert_bytes_arg w 90 5 Tryd.underlying90 Tryd.underlying5 b o 1 c [x] rfl (fun i hi => by
    have : i = 0 := by omega
    subst this
    exact h) 9 Tryd.underlying9
theorem dd_len : ∀ (k m : Nat), m < 10 ^ (k + 1) → (Lib.decDigits m).length ≤ k + 1
  | 0, m, h => by rw [Lib.decDigits, dif_pos (by simpa using h)]; simp
  | k + 1, m, h => by
    by_cases h10 : m < 10
    · rw [Lib.decDigits, dif_pos h10]; simp
    · rw [Lib.decDigits, dif_neg h10, List.length_append, List.length_singleton]
      have : m / 10 < 10 ^ (k + 1) := by rw [Nat.pow_succ] at h; omega
      have := dd_len k (m / 10) this
      omega
set_option maxRecDepth 100000 in
set_option maxHeartbeats 4000000 in
theorem digits_any (m : Nat) : m < 18446744073709551616 → ∀ w : World, Calls Tryd.prog 67 #[.int .u64 m] w fun r w' => r = .returned (.string (bs (Lib.decDigits m))) ∧ Below w.heap.size w w' := by
  induction m using Nat.strongRecOn with
  | _ m ih =>
    intro hu w
    have lww : Later w w := Later.refl
    by_cases h : m < 10
    · have hi : ((m : Int) < 10) := by omega
      obtain ⟨dg, hdg⟩ : ∃ d, d = UInt8.ofNat (48 + m) := ⟨_, rfl⟩
      have hd := hide (show Lib.decDigits m = [dg] by rw [Lib.decDigits, dif_pos h, hdg])
      have HC : ∀ v : World, (convert 90 9 (.slice (some ⟨v.heap.size, 0, none⟩) 1 1)).run Tryd.prog (v.alloc (.cells #[.int .u8 (48 + (m : Int))] 5 (0, 0))) = .ok (.string (bs [dg])) (v.alloc (.cells #[.int .u8 (48 + (m : Int))] 5 (0, 0))) := fun v => by
        rw [conv_byte (x := 48 + (m : Int)) (by rw [blk_cell (heap_alloc_new _ _)]; rfl)]
        rw [show (48 + (m : Int)).toNat = 48 + m by omega, hdg]
      clear ih hdg h hu
      go_enter Tryd.func67, Tryd.ntmps67
      go_wp2_with fail
      go_ret
      exact ⟨by rw [hd.out]; rfl, below_of⟩
    · have hi : ¬ ((m : Int) < 10) := by omega
      obtain ⟨q, hq⟩ : ∃ q, q = m / 10 := ⟨_, rfl⟩
      obtain ⟨t, ht⟩ : ∃ t, t = m % 10 := ⟨_, rfl⟩
      have hqw : IntKind.u64.wrap ((m : Int).tdiv 10) = (q : Int) := by
        rw [Int.tdiv_eq_ediv_of_nonneg (by omega), show ((m : Int) / 10) = (q : Int) by omega]
        simp [IntKind.wrap, IntKind.bits, IntKind.signed]
        omega
      have hqw2 : IntKind.u64.wrap ((m : Int) / 10) = (q : Int) := by
        rw [show ((m : Int) / 10) = (q : Int) by omega]
        simp [IntKind.wrap, IntKind.bits, IntKind.signed]
        omega
      have h5 : t < 10 → IntKind.u64.wrap (48 + (t : Int)) = 48 + (t : Int) := fun h => by
        simp [IntKind.wrap, IntKind.bits, IntKind.signed]
        omega
      have h6 : t < 10 → IntKind.u8.wrap (48 + (t : Int)) = 48 + (t : Int) := fun h => by
        simp [IntKind.wrap, IntKind.bits, IntKind.signed]
        omega
      have hrw : (m : Int).tmod 10 = (t : Int) := by rw [Int.tmod_eq_emod_of_nonneg (by omega)]; omega
      have ht10 : t < 10 := by omega
      obtain ⟨dg, hdg⟩ : ∃ d, d = UInt8.ofNat (48 + t) := ⟨_, rfl⟩
      have IH : ∀ v : World, Calls Tryd.prog 67 #[.int .u64 (q : Int)] v fun r w' => r = .returned (.string (bs (Lib.decDigits q))) ∧ Below v.heap.size v w' := ih q (by omega) (by omega)
      have hdl : (Lib.decDigits q).length ≤ 30 := Nat.le_trans (dd_len 19 q (by omega)) (by omega)
      have hd : Lib.decDigits m = Lib.decDigits q ++ [dg] := by rw [Lib.decDigits, dif_neg h, ← hq, ← ht, hdg]
      generalize Lib.decDigits q = D1 at IH hd hdl
      generalize Lib.decDigits m = D at hd ⊢
      have hD := hide (show bs D1 ++ bs [dg] = bs D by rw [bs_add, hd])
      have HB : ∀ (v : World) (b o c : Nat), v.cell? ⟨b, o, none⟩ = some (.int .u8 (48 + (t : Int))) → (convert 90 9 (.slice (some ⟨b, o, none⟩) 1 c)).run Tryd.prog v = .ok (.string (bs [dg])) v := fun v b o c hc => by
        rw [conv_byte (x := 48 + (t : Int)) hc]
        rw [show (48 + (t : Int)).toNat = 48 + t by omega, hdg]
      have ht' : (t : Int) < 10 := by omega
      clear ih hq ht hdg h hd hu
      go_enter Tryd.func67, Tryd.ntmps67
      go_upto_region 3 with fail
      have ld : Later w w.drew := inferInstance
      refine wp_region_inv (last := 11) (R := specR [.is (.int .u64 m), .is (.int .u64 q), .is (.string (bs D1)), .is (.int .u64 m), .is (.int .u64 t), .is (.int .u64 (48 + (t : Int))), .is (.int .u8 (48 + (t : Int))), .sl byC 1 [48 + (t : Int)], .is (.string (bs [dg])), .is (.string (bs D)), .is (.string (bs D))]) (by kernel_rfl) (specR_mono _) (by kernel_rfl) (by kernel_rfl) (steps_all ?_) ?_ ?_
      · refine ⟨?_, ?_, ?_, ?_, ?_, ?_, ?_, ?_, ?_, ?_, ?_, trivial⟩
        · intro hne a u lu hN hO K hK
          (try simp only [Nat.zero_add, Nat.reduceAdd] at hN hK)
          have e0 : a.tmps.getD 0 undef = .int .u64 m := (hO 0 (out_get (by kernel_rfl))).trans rfl
          simp only [Array.getD_eq_getD_getElem?] at e0
          rw [if_pos (by rfl)]
          go_simp
          exact hK _ _ Later.refl rfl
        · intro hne a u lu hN hO K hK
          (try simp only [Nat.zero_add, Nat.reduceAdd] at hN hK)
          have e0 : a.tmps.getD 10 undef = .int .u64 m := hN 0 (needs_get (by kernel_rfl))
          simp only [Array.getD_eq_getD_getElem?] at e0
          rw [if_pos (by rfl)]
          go_simp
          exact hK _ _ Later.refl rfl
        · intro hne a u lu hN hO K hK
          (try simp only [Nat.zero_add, Nat.reduceAdd] at hN hK)
          have e0 : a.tmps.getD 11 undef = .int .u64 q := hN 1 (needs_get (by kernel_rfl))
          simp only [Array.getD_eq_getD_getElem?] at e0
          rw [if_pos (by rfl)]
          go_simp
          refine (IH _).mono ?_
          rintro r u' ⟨rfl, hb⟩
          exact hK _ _ ⟨hb⟩ rfl
        · intro hne a u lu hN hO K hK
          (try simp only [Nat.zero_add, Nat.reduceAdd] at hN hK)
          have e0 : a.tmps.getD 0 undef = .int .u64 m := (hO 0 (out_get (by kernel_rfl))).trans rfl
          simp only [Array.getD_eq_getD_getElem?] at e0
          rw [if_pos (by rfl)]
          go_simp
          exact hK _ _ Later.refl rfl
        · intro hne a u lu hN hO K hK
          (try simp only [Nat.zero_add, Nat.reduceAdd] at hN hK)
          have e0 : a.tmps.getD 13 undef = .int .u64 m := hN 3 (needs_get (by kernel_rfl))
          simp only [Array.getD_eq_getD_getElem?] at e0
          rw [if_pos (by rfl)]
          go_simp
          exact hK _ _ Later.refl rfl
        · intro hne a u lu hN hO K hK
          (try simp only [Nat.zero_add, Nat.reduceAdd] at hN hK)
          have e0 : a.tmps.getD 14 undef = .int .u64 t := hN 4 (needs_get (by kernel_rfl))
          simp only [Array.getD_eq_getD_getElem?] at e0
          rw [if_pos (by rfl)]
          go_simp
          exact hK _ _ Later.refl rfl
        · intro hne a u lu hN hO K hK
          (try simp only [Nat.zero_add, Nat.reduceAdd] at hN hK)
          have e0 : a.tmps.getD 15 undef = .int .u64 (48 + (t : Int)) := hN 5 (needs_get (by kernel_rfl))
          simp only [Array.getD_eq_getD_getElem?] at e0
          rw [if_pos (by rfl)]
          go_simp
          exact hK _ _ Later.refl rfl
        · intro hne a u lu hN hO K hK
          (try simp only [Nat.zero_add, Nat.reduceAdd] at hN hK)
          have e0 : a.tmps.getD 16 undef = .int .u8 (48 + (t : Int)) := hN 6 (needs_get (by kernel_rfl))
          simp only [Array.getD_eq_getD_getElem?] at e0
          rw [if_pos (by rfl)]
          go_simp
          exact hK _ _ inferInstance ⟨_, _, rfl, blk_slAt byC_enc (heap_alloc_new _ _) _ rfl⟩
        · intro hne a u lu hN hO K hK
          (try simp only [Nat.zero_add, Nat.reduceAdd] at hN hK)
          obtain ⟨Ax, cx, ex, Sx⟩ : ∃ A c, a.tmps.getD 17 undef = .slice A 1 c ∧ SlAt byC 1 u A [48 + (t : Int)] := hN 7 (needs_get (by kernel_rfl))
          simp only [Array.getD_eq_getD_getElem?] at ex
          obtain ⟨b1, o1, x1, rfl, -, hx1, hc1⟩ := Sx.at_ (k := 0) (by simp)
          simp only [List.getElem?_cons_zero] at hx1
          injection hx1 with hx1
          subst hx1
          have HC := HB u b1 o1 cx (hc1 0 _ rfl)
          rw [if_pos (by rfl)]
          go_simp
          exact hK _ _ Later.refl rfl
        · intro hne a u lu hN hO K hK
          (try simp only [Nat.zero_add, Nat.reduceAdd] at hN hK)
          have e0 : a.tmps.getD 12 undef = .string (bs D1) := hN 2 (needs_get (by kernel_rfl))
          simp only [Array.getD_eq_getD_getElem?] at e0
          have e1 : a.tmps.getD 18 undef = .string (bs [dg]) := hN 8 (needs_get (by kernel_rfl))
          simp only [Array.getD_eq_getD_getElem?] at e1
          have hno : ¬ 9223372036854775807 < D1.length + 1 := by omega
          rw [if_pos (by rfl)]
          go_simp
          exact hK _ _ Later.refl (by rw [hD.out]; rfl)
        · intro hne a u lu hN hO K hK
          (try simp only [Nat.zero_add, Nat.reduceAdd] at hN hK)
          have e0 : a.tmps.getD 19 undef = .string (bs D) := hN 9 (needs_get (by kernel_rfl))
          simp only [Array.getD_eq_getD_getElem?] at e0
          rw [if_pos (by rfl)]
          go_simp
          exact hK _ _ Later.refl rfl
      · intro o ho; cases ho
      · intro _ a7 w7 hI7
        have e0 : a7.tmps.getD 2 undef = .string (bs D) := hI7.got 10 (by decide) rfl
        have hd7 : a7.defers = [] := hI7.defers.trans rfl
        have lf := (ld.trans hI7.later).below
        go_wp2_with fail
        refine bodyPost_ret (results_tmp rfl _ _ _) hd7 ⟨by rw [e0], lf⟩
end Go.Proofs.YtjegncmkebbdfaaDoor
