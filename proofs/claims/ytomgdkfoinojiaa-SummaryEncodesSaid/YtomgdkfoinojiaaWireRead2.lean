/-
  Contracts of the functions of this seat that each theorem names: what a call returns, and that it writes nothing that was there before. The conditions stand in each theorem.
-/
import Derived.Test.YtomgdkfoinojiaaWireRead1
set_option linter.unusedSimpArgs false
set_option linter.unusedVariables false
namespace Go.Proofs.Ytomgdkfoinojiaa
open Go.RowKit
set_option maxRecDepth 100000 in
set_option maxHeartbeats 4000000 in
theorem uint1_ok (wb : World) (g br bn : Nat) (A : Option Addr) (c : Nat) (l : List Int) (e : Int) (w : World) [hw : Later wb w] (hA : SlAt U8.cells 1 wb A l) (hlc : l.length ≤ c) (hcm : c ≤ maxLen) (hb : Bytes l) (ho : okU l = true)
    (hg : w.heap[g]? = some (.cells #[.slice A l.length c, .int .i64 e] 135 (0, 0))) (hbr : w.heap[br]? = some (.cells #[.pointer (some ⟨g, 0, none⟩)] 103 (0, 0))) (hbn : w.heap[bn]? = some (.cells #[.int .u64 0] 38 (0, 0)))
    (hgw : wb.heap.size ≤ g) (hbw : wb.heap.size ≤ bn) (hn1 : bn ≠ g) (hn2 : br ≠ g) (hn3 : br ≠ bn) :
    Calls Try.prog 84 #[.pointer (some ⟨br, 0, none⟩), .pointer (some ⟨bn, 0, none⟩)] w (fun r w' => r = .returned (.int .i64 0) ∧ Only (fun k => k = g ∨ k = bn) w w' ∧ w'.heap[bn]? = some (.cells #[.int .u64 (numU l)] 38 (0, 0)) ∧
    ∃ (A : Option Addr) (c : Nat), SlAt U8.cells 1 wb A (restU l) ∧ (restU l).length ≤ c ∧ c ≤ maxLen ∧ w'.heap[g]? = some (.cells #[.slice A (restU l).length c, .int .i64 e] 135 (0, 0))) := by
  have BG := boxed hg
  have BR := boxed hbr
  cases l with
  | nil => cases ho
  | cons k t =>
    have hk := hb k (by simp)
    simp only [okU, Bool.and_eq_true, decide_eq_true_eq, Bool.not_eq_true', Bool.and_eq_false_iff, decide_eq_false_iff_not] at ho
    obtain ⟨h8, hs, hz⟩ := ho
    obtain ⟨b, off, rfl, hbl, K0⟩ := byte_at hA (k := 0) (x := k) rfl
    rw [Nat.add_zero] at K0
    simp only [List.length_cons] at hlc hg BG
    have h8' : decide (8 < k) = false := by simpa using h8
    have hs' : decide ((t.length : Int) + 1 ≤ k) = false := by simp; omega
    by_cases h0 : k = 0
    · subst h0
      have hcc : (1 : Int) ≤ (c : Int) := by omega
      by_cases hc1 : c = 1
      · have hte : t = [] := List.eq_nil_of_length_eq_zero (by omega)
        subst hte
        go_enter Try.func84, Try.ntmps84
        go_upto_region 1 with fail
        (refine wp_region_after (by kernel_rfl) (by kernel_rfl) ?_
         repeat (any_goals (first | go_big_quiet_skip | (go_big_quiet_want; go_big_quiet_op; first | go_big_quiet_on | go_big_quiet_call (fail)) | quiet_step (fail) | (refine wpQuiet_step (fun K hK => ?_); go_simp; split <;> (refine hK _ ?_; clear hK K))))
         all_goals (refine wpQuiet_nil ?_; intro _ hw'; obtain ⟨u', hw''⟩ := hw'; subst hw''; obtain ⟨wd, hbd⟩ := u'; simp only [After.val_mk]))
        have ld := later hbd
        go_wp2_with fail
        have hon : Only (fun k => k = g ∨ k = bn) w wd := Only.of_below hbd
        have hbnr := (hbd.block _ (blk_lt hbn)).trans hbn
        have hbrc : wd.cell? ⟨br, 0, none⟩ = some (.pointer (some ⟨g, 0, none⟩)) := ((BR wd).2 0).1.trans rfl
        go_loopw [5, 69] (fun _ i wr => i = .int .i64 0 ∧ wd = wr) (fun _ _ _ => 0)
        case atStart => exact ⟨rfl, rfl⟩
        case round =>
          obtain ⟨rfl, rfl⟩ := hrel
          have hwr : IntKind.i64.wrap 1 = 1 := rfl
          have hw1 : (1 : Int) ≤ ((([] : List Int)).length : Int) + 1 := by omega
          have hlr := hide (show (restU ((0 : Int) :: ([] : List Int))).length = (([] : List Int)).length by simp [restU])
          have hS : SlAt U8.cells 1 wb (some ⟨b, off, none⟩) (restU ((0 : Int) :: ([] : List Int))) := by exact SlAt.nil
          go_upto_region 9 with fail
          refine wp_region_held_drew (S := fun w' => w'.cell? ⟨br, 0, none⟩ = some (.pointer (some ⟨g, 0, none⟩))) (by kernel_rfl) hbrc (fun hHeld => ?_)
          refine wpAnyH_take (i := 0) (oi := _) (v := ?_) rfl (by kernel_rfl) (by kernel_rfl) (by kernel_rfl) (fun _ _ _ h => h) (Or.inl ⟨by rfl, ?_⟩) (by assumption) ?_
          rotate_left 1
          · (intro wy hSw; (try dsimp only at hSw); go_simp; try with_reducible rfl)
          (try simp only [Act.put])
          refine wpAnyH_take (i := 1) (oi := _) (v := ?_) rfl (by kernel_rfl) (by kernel_rfl) (by kernel_rfl) (fun _ _ _ h => h) (Or.inl ⟨by rfl, ?_⟩) (by assumption) ?_
          rotate_left 1
          · (intro wy hSw; (try dsimp only at hSw); go_simp; try with_reducible rfl)
          (try simp only [Act.put])
          refine wpAnyH_take (i := 2) (oi := _) (v := ?_) rfl (by kernel_rfl) (by kernel_rfl) (by kernel_rfl) (fun _ _ _ h => h) (Or.inl ⟨by rfl, ?_⟩) (by assumption) ?_
          rotate_left 1
          · (intro wy hSw; (try dsimp only at hSw); go_simp; try with_reducible rfl)
          (try simp only [Act.put])
          refine wpAnyH_take (i := 3) (oi := _) (v := ?_) rfl (by kernel_rfl) (by kernel_rfl) (by kernel_rfl) (fun _ _ _ h => h) (Or.inl ⟨by rfl, ?_⟩) (by assumption) ?_
          rotate_left 1
          · (intro wy hSw; (try dsimp only at hSw); go_simp; try with_reducible rfl)
          (try simp only [Act.put])
          refine wpAnyH_take (i := 5) (oi := _) (v := ?_) rfl (by kernel_rfl) (by kernel_rfl) (by kernel_rfl) (fun _ _ _ h => h) (Or.inl ⟨by rfl, ?_⟩) (by assumption) ?_
          rotate_left 1
          · (intro wy hSw; (try dsimp only at hSw); go_simp; try with_reducible rfl)
          (try simp only [Act.put])
          refine wpAnyH_take (i := 6) (oi := _) (v := ?_) rfl (by kernel_rfl) (by kernel_rfl) (by kernel_rfl) (fun _ _ _ h => h) (Or.inl ⟨by rfl, ?_⟩) (by assumption) ?_
          rotate_left 1
          · (intro wy hSw; (try dsimp only at hSw); go_simp; try with_reducible rfl)
          (try simp only [Act.put])
          refine wpAnyH_ready (rs := [4]) (by kernel_rfl) (by simp) ?_
          refine AllReadyH.cons (o := _) rfl (fun K9 hK9 => ?_) AllReadyH.nil
          go_simp
          refine hK9.out _ _ (by exact hbrc) (fun hHeld => ?_)
          clear hK9 K9
          (try simp only [Act.put])
          refine wpAnyH_take (i := 7) (oi := _) (v := ?_) rfl (by kernel_rfl) (by kernel_rfl) (by kernel_rfl) (fun _ _ _ h => h) (Or.inl ⟨by rfl, ?_⟩) (by assumption) ?_
          rotate_left 1
          · (intro wy hSw; (try dsimp only at hSw); go_simp; try with_reducible rfl)
          (try simp only [Act.put])
          refine wpAnyH_take (i := 8) (oi := _) (v := ?_) rfl (by kernel_rfl) (by kernel_rfl) (by kernel_rfl) (fun _ _ _ h => h) (Or.inl ⟨by rfl, ?_⟩) (by assumption) ?_
          rotate_left 1
          · (intro wy hSw; (try dsimp only at hSw); go_simp; try with_reducible rfl)
          (try simp only [Act.put])
          refine wpAnyH_take (i := 9) (oi := _) (v := ?_) rfl (by kernel_rfl) (by kernel_rfl) (by kernel_rfl) (fun _ _ _ h => h) (Or.inl ⟨by rfl, ?_⟩) (by assumption) ?_
          rotate_left 1
          · (intro wy hSw; (try dsimp only at hSw); go_simp; try with_reducible rfl)
          (try simp only [Act.put])
          refine wpAnyH_ready (rs := [10]) (by kernel_rfl) (by simp) ?_
          refine AllReadyH.cons (o := _) rfl (fun K9 hK9 => ?_) AllReadyH.nil
          go_simp
          refine hK9.out _ _ (by exact Eq.trans (World.cell?_setCell_far _ ⟨g, 0, none⟩ _ _ (fun e => hn2 e.symm)) hbrc) (fun hHeld => ?_)
          clear hK9 K9
          (try simp only [Act.put])
          refine wpAnyH_done (by kernel_rfl) ?_ _
          go_wp2_with fail
          go_ret
          rw [hlr.out]
          have hG := blk_set (BG wd).1 0 (.slice (some ⟨b, off, none⟩) (([] : List Int)).length (c - 1))
          refine ⟨rfl, (Only.setCell hon (Or.inl (Or.inl rfl)) _).drew, (blk_far (p := ⟨g, 0, none⟩) hn1 _).trans (hbnr.trans (by simp [numU, valN])), ?_⟩
          have h1' : (([] : List Int)).length ≤ c - 1 := by first | omega | (simp <;> omega)
          have h2' : c - 1 ≤ maxLen := by omega
          first
            | exact ⟨some ⟨b, off, none⟩, c - 1, hS, h1', h2', hG⟩
            | (simp only [hc1, Nat.sub_self] at hG h1' h2' ⊢; exact ⟨some ⟨b, off, none⟩, 0, hS, h1', h2', hG⟩)
      · skip
        go_enter Try.func84, Try.ntmps84
        go_upto_region 1 with fail
        (refine wp_region_after (by kernel_rfl) (by kernel_rfl) ?_
         repeat (any_goals (first | go_big_quiet_skip | (go_big_quiet_want; go_big_quiet_op; first | go_big_quiet_on | go_big_quiet_call (fail)) | quiet_step (fail) | (refine wpQuiet_step (fun K hK => ?_); go_simp; split <;> (refine hK _ ?_; clear hK K))))
         all_goals (refine wpQuiet_nil ?_; intro _ hw'; obtain ⟨u', hw''⟩ := hw'; subst hw''; obtain ⟨wd, hbd⟩ := u'; simp only [After.val_mk]))
        have ld := later hbd
        go_wp2_with fail
        have hon : Only (fun k => k = g ∨ k = bn) w wd := Only.of_below hbd
        have hbnr := (hbd.block _ (blk_lt hbn)).trans hbn
        have hbrc : wd.cell? ⟨br, 0, none⟩ = some (.pointer (some ⟨g, 0, none⟩)) := ((BR wd).2 0).1.trans rfl
        go_loopw [5, 69] (fun _ i wr => i = .int .i64 0 ∧ wd = wr) (fun _ _ _ => 0)
        case atStart => exact ⟨rfl, rfl⟩
        case round =>
          obtain ⟨rfl, rfl⟩ := hrel
          have hwr : IntKind.i64.wrap 1 = 1 := rfl
          have hw1 : (1 : Int) ≤ ((t).length : Int) + 1 := by omega
          have hlr := hide (show (restU ((0 : Int) :: t)).length = (t).length by simp [restU])
          have hS : SlAt U8.cells 1 wb (some ⟨b, off + 1, none⟩) (restU ((0 : Int) :: t)) := by simpa [restU] using SlAt.drop hA 1
          go_upto_region 9 with fail
          refine wp_region_held_drew (S := fun w' => w'.cell? ⟨br, 0, none⟩ = some (.pointer (some ⟨g, 0, none⟩))) (by kernel_rfl) hbrc (fun hHeld => ?_)
          refine wpAnyH_take (i := 0) (oi := _) (v := ?_) rfl (by kernel_rfl) (by kernel_rfl) (by kernel_rfl) (fun _ _ _ h => h) (Or.inl ⟨by rfl, ?_⟩) (by assumption) ?_
          rotate_left 1
          · (intro wy hSw; (try dsimp only at hSw); go_simp; try with_reducible rfl)
          (try simp only [Act.put])
          refine wpAnyH_take (i := 1) (oi := _) (v := ?_) rfl (by kernel_rfl) (by kernel_rfl) (by kernel_rfl) (fun _ _ _ h => h) (Or.inl ⟨by rfl, ?_⟩) (by assumption) ?_
          rotate_left 1
          · (intro wy hSw; (try dsimp only at hSw); go_simp; try with_reducible rfl)
          (try simp only [Act.put])
          refine wpAnyH_take (i := 2) (oi := _) (v := ?_) rfl (by kernel_rfl) (by kernel_rfl) (by kernel_rfl) (fun _ _ _ h => h) (Or.inl ⟨by rfl, ?_⟩) (by assumption) ?_
          rotate_left 1
          · (intro wy hSw; (try dsimp only at hSw); go_simp; try with_reducible rfl)
          (try simp only [Act.put])
          refine wpAnyH_take (i := 3) (oi := _) (v := ?_) rfl (by kernel_rfl) (by kernel_rfl) (by kernel_rfl) (fun _ _ _ h => h) (Or.inl ⟨by rfl, ?_⟩) (by assumption) ?_
          rotate_left 1
          · (intro wy hSw; (try dsimp only at hSw); go_simp; try with_reducible rfl)
          (try simp only [Act.put])
          refine wpAnyH_take (i := 5) (oi := _) (v := ?_) rfl (by kernel_rfl) (by kernel_rfl) (by kernel_rfl) (fun _ _ _ h => h) (Or.inl ⟨by rfl, ?_⟩) (by assumption) ?_
          rotate_left 1
          · (intro wy hSw; (try dsimp only at hSw); go_simp; try with_reducible rfl)
          (try simp only [Act.put])
          refine wpAnyH_take (i := 6) (oi := _) (v := ?_) rfl (by kernel_rfl) (by kernel_rfl) (by kernel_rfl) (fun _ _ _ h => h) (Or.inl ⟨by rfl, ?_⟩) (by assumption) ?_
          rotate_left 1
          · (intro wy hSw; (try dsimp only at hSw); go_simp; try with_reducible rfl)
          (try simp only [Act.put])
          refine wpAnyH_ready (rs := [4]) (by kernel_rfl) (by simp) ?_
          refine AllReadyH.cons (o := _) rfl (fun K9 hK9 => ?_) AllReadyH.nil
          go_simp
          refine hK9.out _ _ (by exact hbrc) (fun hHeld => ?_)
          clear hK9 K9
          (try simp only [Act.put])
          refine wpAnyH_take (i := 7) (oi := _) (v := ?_) rfl (by kernel_rfl) (by kernel_rfl) (by kernel_rfl) (fun _ _ _ h => h) (Or.inl ⟨by rfl, ?_⟩) (by assumption) ?_
          rotate_left 1
          · (intro wy hSw; (try dsimp only at hSw); go_simp; try with_reducible rfl)
          (try simp only [Act.put])
          refine wpAnyH_take (i := 8) (oi := _) (v := ?_) rfl (by kernel_rfl) (by kernel_rfl) (by kernel_rfl) (fun _ _ _ h => h) (Or.inl ⟨by rfl, ?_⟩) (by assumption) ?_
          rotate_left 1
          · (intro wy hSw; (try dsimp only at hSw); go_simp; try with_reducible rfl)
          (try simp only [Act.put])
          refine wpAnyH_take (i := 9) (oi := _) (v := ?_) rfl (by kernel_rfl) (by kernel_rfl) (by kernel_rfl) (fun _ _ _ h => h) (Or.inl ⟨by rfl, ?_⟩) (by assumption) ?_
          rotate_left 1
          · (intro wy hSw; (try dsimp only at hSw); go_simp; try with_reducible rfl)
          (try simp only [Act.put])
          refine wpAnyH_ready (rs := [10]) (by kernel_rfl) (by simp) ?_
          refine AllReadyH.cons (o := _) rfl (fun K9 hK9 => ?_) AllReadyH.nil
          go_simp
          refine hK9.out _ _ (by exact Eq.trans (World.cell?_setCell_far _ ⟨g, 0, none⟩ _ _ (fun e => hn2 e.symm)) hbrc) (fun hHeld => ?_)
          clear hK9 K9
          (try simp only [Act.put])
          refine wpAnyH_done (by kernel_rfl) ?_ _
          go_wp2_with fail
          go_ret
          rw [hlr.out]
          have hG := blk_set (BG wd).1 0 (.slice (some ⟨b, off + 1, none⟩) (t).length (c - 1))
          refine ⟨rfl, (Only.setCell hon (Or.inl (Or.inl rfl)) _).drew, (blk_far (p := ⟨g, 0, none⟩) hn1 _).trans (hbnr.trans (by simp [numU, valN])), ?_⟩
          have h1' : (t).length ≤ c - 1 := by first | omega | (simp <;> omega)
          have h2' : c - 1 ≤ maxLen := by omega
          first
            | exact ⟨some ⟨b, off + 1, none⟩, c - 1, hS, h1', h2', hG⟩
            | (simp only [hc1, Nat.sub_self] at hG h1' h2' ⊢; exact ⟨some ⟨b, off + 1, none⟩, 0, hS, h1', h2', hG⟩)
    · obtain ⟨kn, rfl⟩ : ∃ kn : Nat, k = (kn : Int) := ⟨k.toNat, by omega⟩
      have hkp : decide ((0 : Int) < (kn : Int)) = true := by simp; omega
      have hkl : kn ≤ t.length := by omega
      have hk8 : kn ≤ 8 := by omega
      have hkn : 0 < kn := by omega
      have hsl1 : (1 : Int) ≤ 1 + (kn : Int) := by omega
      have hsl2 : 1 + (kn : Int) ≤ (c : Int) := by omega
      clear h0
      have hc1 : ¬ c = 1 := by omega
      obtain ⟨y, hy⟩ : ∃ y, t[0]? = some y := ⟨_, List.getElem?_eq_getElem (by omega)⟩
      have hy0 : (y == 0) = false := by
        have : y ≠ 0 := fun e => by rcases hz with hz | hz; omega; exact hz (by rw [hy, e])
        simpa using this
      obtain ⟨b', off', e1, -, K1⟩ := byte_at hA (k := 1) (x := y) (by simpa using hy)
      injection e1 with e1
      injection e1 with e1 e2
      subst e1 e2
      have ht : (1 : Int) < (t.length : Int) + 1 := by omega
      go_enter Try.func84, Try.ntmps84
      go_upto_region 1 with fail
      (refine wp_region_after (by kernel_rfl) (by kernel_rfl) ?_
       repeat (any_goals (first | go_big_quiet_skip | (go_big_quiet_want; go_big_quiet_op; first | go_big_quiet_on | go_big_quiet_call (fail)) | quiet_step (fail) | (refine wpQuiet_step (fun K hK => ?_); go_simp; split <;> (refine hK _ ?_; clear hK K))))
       all_goals (refine wpQuiet_nil ?_; intro _ hw'; obtain ⟨u', hw''⟩ := hw'; subst hw''; obtain ⟨wd, hbd⟩ := u'; simp only [After.val_mk]))
      have ld := later hbd
      go_wp2_with fail
      go_loopw [5, 69] (fun _ i wr => ∃ j : Nat, j ≤ kn ∧ i = .int .i64 j ∧ wr.heap[bn]? = some (.cells #[.int .u64 (valN (t.take j) : Nat)] 38 (0, 0)) ∧ Only (fun k => k = bn) w wr) (fun _ i _ => kn - (intOf i).toNat)
      case atStart => exact ⟨0, by omega, rfl, (hbd.block _ (blk_lt hbn)).trans (by simpa [valN] using hbn), Only.of_below hbd⟩
      case round =>
        obtain ⟨j, hj, rfl, hbnr, hon⟩ := hrel
        have lr := hon.later (W := wb) (fun k e => by subst e; exact hbw)
        have BNr := boxed hbnr
        have BRr := boxed (hon.boxed hbr hn3)
        have BGr := boxed (hon.boxed hg (fun e => hn1 e.symm))
        by_cases hlt : j < kn
        · obtain ⟨x, hx⟩ : ∃ x, t[j]? = some x := ⟨_, List.getElem?_eq_getElem (by omega)⟩
          obtain ⟨b', off', e1, -, Kx⟩ := byte_at hA (k := j + 1) (x := x) (by simpa using hx)
          injection e1 with e1
          injection e1 with e1 e2
          subst e1 e2
          have hxr := hb.tail x (List.mem_of_getElem? hx)
          rw [show off + (j + 1) = off + 1 + j by omega] at Kx
          have hv : valN (t.take j) < 72057594037927936 := by
            have h1 := valN_lt j (t.take j) (by rw [List.length_take]; omega) (hb.tail.take _)
            have h2 : 256 ^ j ≤ 256 ^ 7 := Nat.pow_le_pow_right (by omega) (by omega)
            omega
          have hjk : (j : Int) < (kn : Int) := by omega
          have Hx := hide hx
          clear hx BG BR
          have hor : bits BinOp.or IntKind.u64 ((valN (t.take j) : Nat) * 256) x = ((valN (t.take (j + 1)) : Nat) : Int) := by
            rw [take_snoc_get Hx.out, valN_snoc]
            obtain ⟨m, rfl⟩ : ∃ m : Nat, x = (m : Int) := ⟨x.toNat, by omega⟩
            have := bits_or_u64_nat (valN (t.take j) * 256) m (by omega) (by omega)
            rw [Int.natCast_mul] at this
            refine Eq.trans this ?_
            have h2 := Nat.two_pow_add_eq_or_of_lt (i := 8) (b := m) (by omega) (valN (t.take j))
            rw [Int.toNat_natCast, Nat.mul_comm (valN (t.take j)) 256]
            exact congrArg Int.ofNat h2.symm
          have Hor := hide hor
          clear hor
          go_wp2_with fail
          go_roundw
          case rel => exact ⟨j + 1, by omega, by go_num, (blk_set hbnr 0 _).trans (by rw [Hor.out]; rfl), hon.setCell (.inl rfl) _⟩
          case measure => simp [intOf]; omega
        · have hj' : j = kn := by omega
          subst hj'
          clear BG BR
          go_upto_region 9 with fail
          have hwr : IntKind.i64.wrap (1 + (j : Int)) = 1 + (j : Int) := by simp [IntKind.wrap, IntKind.bits, IntKind.signed]; omega
          have htn : (1 + (j : Int)).toNat = 1 + j := by omega
          have hw0 : (0 : Int) ≤ 1 + (j : Int) := by omega
          have hw1 : 1 + (j : Int) ≤ (t.length : Int) + 1 := by omega
          have hbrc : wr.cell? ⟨br, 0, none⟩ = some (.pointer (some ⟨g, 0, none⟩)) := ((BRr wr).2 0).1.trans rfl
          refine wp_region_held_drew (S := fun w' => w'.cell? ⟨br, 0, none⟩ = some (.pointer (some ⟨g, 0, none⟩))) (by kernel_rfl) hbrc (fun hHeld => ?_)
          refine wpAnyH_take (i := 0) (oi := _) (v := ?_) rfl (by kernel_rfl) (by kernel_rfl) (by kernel_rfl) (fun _ _ _ h => h) (Or.inl ⟨by rfl, ?_⟩) (by assumption) ?_
          rotate_left 1
          · (intro wy hSw; (try dsimp only at hSw); go_simp; try with_reducible rfl)
          (try simp only [Act.put])
          refine wpAnyH_take (i := 1) (oi := _) (v := ?_) rfl (by kernel_rfl) (by kernel_rfl) (by kernel_rfl) (fun _ _ _ h => h) (Or.inl ⟨by rfl, ?_⟩) (by assumption) ?_
          rotate_left 1
          · (intro wy hSw; (try dsimp only at hSw); go_simp; try with_reducible rfl)
          (try simp only [Act.put])
          refine wpAnyH_take (i := 2) (oi := _) (v := ?_) rfl (by kernel_rfl) (by kernel_rfl) (by kernel_rfl) (fun _ _ _ h => h) (Or.inl ⟨by rfl, ?_⟩) (by assumption) ?_
          rotate_left 1
          · (intro wy hSw; (try dsimp only at hSw); go_simp; try with_reducible rfl)
          (try simp only [Act.put])
          refine wpAnyH_take (i := 3) (oi := _) (v := ?_) rfl (by kernel_rfl) (by kernel_rfl) (by kernel_rfl) (fun _ _ _ h => h) (Or.inl ⟨by rfl, ?_⟩) (by assumption) ?_
          rotate_left 1
          · (intro wy hSw; (try dsimp only at hSw); go_simp; try with_reducible rfl)
          (try simp only [Act.put])
          refine wpAnyH_take (i := 5) (oi := _) (v := ?_) rfl (by kernel_rfl) (by kernel_rfl) (by kernel_rfl) (fun _ _ _ h => h) (Or.inl ⟨by rfl, ?_⟩) (by assumption) ?_
          rotate_left 1
          · (intro wy hSw; (try dsimp only at hSw); go_simp; try with_reducible rfl)
          (try simp only [Act.put])
          refine wpAnyH_take (i := 6) (oi := _) (v := ?_) rfl (by kernel_rfl) (by kernel_rfl) (by kernel_rfl) (fun _ _ _ h => h) (Or.inl ⟨by rfl, ?_⟩) (by assumption) ?_
          rotate_left 1
          · (intro wy hSw; (try dsimp only at hSw); go_simp; try with_reducible rfl)
          (try simp only [Act.put])
          refine wpAnyH_ready (rs := [4]) (by kernel_rfl) (by simp) ?_
          refine AllReadyH.cons (o := _) rfl (fun K9 hK9 => ?_) AllReadyH.nil
          go_simp
          refine hK9.out _ _ (by exact hbrc) (fun hHeld => ?_)
          clear hK9 K9
          (try simp only [Act.put])
          refine wpAnyH_take (i := 7) (oi := _) (v := ?_) rfl (by kernel_rfl) (by kernel_rfl) (by kernel_rfl) (fun _ _ _ h => h) (Or.inl ⟨by rfl, ?_⟩) (by assumption) ?_
          rotate_left 1
          · (intro wy hSw; (try dsimp only at hSw); go_simp; try with_reducible rfl)
          (try simp only [Act.put])
          refine wpAnyH_take (i := 8) (oi := _) (v := ?_) rfl (by kernel_rfl) (by kernel_rfl) (by kernel_rfl) (fun _ _ _ h => h) (Or.inl ⟨by rfl, ?_⟩) (by assumption) ?_
          rotate_left 1
          · (intro wy hSw; (try dsimp only at hSw); go_simp; try with_reducible rfl)
          (try simp only [Act.put])
          refine wpAnyH_take (i := 9) (oi := _) (v := ?_) rfl (by kernel_rfl) (by kernel_rfl) (by kernel_rfl) (fun _ _ _ h => h) (Or.inl ⟨by rfl, ?_⟩) (by assumption) ?_
          rotate_left 1
          · (intro wy hSw; (try dsimp only at hSw); go_simp; try with_reducible rfl)
          (try simp only [Act.put])
          refine wpAnyH_ready (rs := [10]) (by kernel_rfl) (by simp) ?_
          refine AllReadyH.cons (o := _) rfl (fun K9 hK9 => ?_) AllReadyH.nil
          go_simp
          refine hK9.out _ _ (by exact Eq.trans (World.cell?_setCell_far _ ⟨g, 0, none⟩ _ _ (fun e => hn2 e.symm)) hbrc) (fun hHeld => ?_)
          clear hK9 K9
          (try simp only [Act.put])
          refine wpAnyH_done (by kernel_rfl) ?_ _
          have hlr : (restU ((j : Int) :: t)).length = t.length + 1 - (1 + j) := by simp [restU]; omega
          have Hlr := hide hlr
          clear hlr
          by_cases hce : c = 1 + j
          · have hS : SlAt U8.cells 1 wb (some ⟨b, off, none⟩) (restU ((j : Int) :: t)) := by
              have : restU ((j : Int) :: t) = [] := by simp [restU]; omega
              rw [this]; exact SlAt.nil
            go_wp2_with fail
            go_ret
            rw [Hlr.out]
            refine ⟨rfl, (Only.setCell (hon.mono (s' := fun k => k = g ∨ k = bn) (fun k _ h => Or.inr h)) (Or.inl (Or.inl rfl)) _).drew, (blk_far (p := ⟨g, 0, none⟩) hn1 _).trans (hbnr.trans (by simp [numU])), ?_⟩
            have hG := (blk_set (BGr wr).1 0 (.slice (some ⟨b, off, none⟩) (t.length + 1 - (1 + j)) (c - (1 + j))))
            refine Exists.intro (some ⟨b, off, none⟩) (And.intro hS (Exists.intro (c - (1 + j)) (And.intro (by omega) (And.intro (by omega) ?_))))
            first | exact hG | (have hc0 : c - (1 + j) = 0 := by omega
                                rw [hc0] at hG ⊢
                                exact hG)
          · have hS : SlAt U8.cells 1 wb (some ⟨b, off + (1 + j), none⟩) (restU ((j : Int) :: t)) := by
              have := SlAt.drop hA (1 + j)
              rw [Nat.mul_one] at this
              rw [show restU ((j : Int) :: t) = ((j : Int) :: t).drop (1 + j) by rw [Nat.add_comm]; simp [restU]]
              exact this
            go_wp2_with fail
            go_ret
            rw [Hlr.out]
            refine ⟨rfl, (Only.setCell (hon.mono (s' := fun k => k = g ∨ k = bn) (fun k _ h => Or.inr h)) (Or.inl (Or.inl rfl)) _).drew, (blk_far (p := ⟨g, 0, none⟩) hn1 _).trans (hbnr.trans (by simp [numU])), ?_⟩
            have hG := (blk_set (BGr wr).1 0 (.slice (some ⟨b, off + (1 + j), none⟩) (t.length + 1 - (1 + j)) (c - (1 + j))))
            refine Exists.intro (some ⟨b, off + (1 + j), none⟩) (And.intro hS (Exists.intro (c - (1 + j)) (And.intro (by omega) (And.intro (by omega) ?_))))
            first | exact hG | (have hc0 : c - (1 + j) = 0 := by omega
                                rw [hc0] at hG ⊢
                                exact hG)
end Go.Proofs.Ytomgdkfoinojiaa
