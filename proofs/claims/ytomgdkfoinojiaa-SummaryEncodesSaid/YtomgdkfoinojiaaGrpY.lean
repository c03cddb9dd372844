/-
  Small texts of this seat, put into one. Conditions stand in each theorem.
-/
import Derived.Test.YtomgdkfoinojiaaGrpG
set_option linter.unusedSimpArgs false
set_option linter.unusedVariables false
namespace Go.Proofs.Ytomgdkfoinojiaa
open Go.RowKit
attribute [local go_sem] Instr.makeFunc
/-! Bool -/
def okB1 : List Int → Bool
  | [] => false
  | x :: _ => decide (x ≤ 1)
def rdB (st : List Int × Int) : Bool × (List Int × Int) := if st.2 = 0 then (if okB1 st.1 then (st.1[0]? == some 1, (st.1.drop 1, 0)) else (false, ([], 11))) else (false, st)
def BOk (wb : World) (g bx : Nat) (x : Int) (t : List Int) (w w' : World) : Prop := Only (fun k => k = g ∨ k = bx) w w' ∧ w'.heap[bx]? = some (.cells #[.bool (x == 1)] 4 (0, 0)) ∧
    ∃ (A : Option Addr) (c : Nat), SlAt U8.cells 1 wb A t ∧ t.length ≤ c ∧ c ≤ maxLen ∧ w'.heap[g]? = some (.cells #[.slice A t.length c, .int .i64 0] 135 (0, 0))
set_option maxRecDepth 100000 in
set_option maxHeartbeats 2000000 in
theorem bool1_bad (wb : World) (g br bx : Nat) (A : Option Addr) (c : Nat) (l : List Int) (w : World) [hw : Later wb w] (hA : SlAt U8.cells 1 wb A l) (ho : okB1 l = false)
    (hg : w.heap[g]? = some (.cells #[.slice A l.length c, .int .i64 0] 135 (0, 0))) (hbr : w.heap[br]? = some (.cells #[.pointer (some ⟨g, 0, none⟩)] 103 (0, 0))) :
    Calls Try.prog 86 #[.pointer (some ⟨br, 0, none⟩), .pointer (some ⟨bx, 0, none⟩)] w fun r w' => r = .returned (.int .i64 11) ∧ Below w.heap.size w w' := by
  have BG := boxed hg
  have BR := boxed hbr
  cases l with
  | nil =>
    go_enter Try.func86, Try.ntmps86
    go_wp2_with fail
    go_ret
    exact ⟨rfl, below_of⟩
  | cons x t =>
    obtain ⟨b, off, rfl, hbl, K0⟩ := byte_at hA (k := 0) (x := x) rfl
    rw [Nat.add_zero] at K0
    simp only [List.length_cons] at hg BG
    have hx : decide (1 < x) = true := by simp [okB1] at ho; simpa using ho
    go_enter Try.func86, Try.ntmps86
    go_wp2_with fail
    go_ret
    exact ⟨rfl, below_of⟩
theorem slAt_zero {α : Type} {f : α → List Value} {s : Nat} {w : World} {A : Option Addr} {l : List α} (h : l.length = 0) : SlAt f s w A l := by
  have := List.eq_nil_of_length_eq_zero h
  subst this; exact SlAt.nil
theorem bok_of {wb : World} {g bx : Nat} {x : Int} {t : List Int} {w : World} {bv : Value} (A : Option Addr) (c : Nat) (hg : w.heap[g]? = some (.cells #[bv, .int .i64 0] 135 (0, 0))) (hbx : w.heap[bx]? = some (.cells #[.bool false] 4 (0, 0))) (hn1 : bx ≠ g) (hs : SlAt U8.cells 1 wb A t) (h1 : t.length ≤ c) (h2 : c ≤ maxLen) :
    BOk wb g bx x t w ((w.setCell ⟨bx, 0, none⟩ (.bool (x == 1))).setCell ⟨g, 0, none⟩ (.slice A t.length c)).drew :=
  ⟨((Only.setCell (s := fun k => k = g ∨ k = bx) (p := ⟨g, 0, none⟩) (Only.setCell (s := fun k => k = g ∨ k = bx) (p := ⟨bx, 0, none⟩) Only.refl (.inl (.inr rfl)) _) (.inl (.inl rfl)) _)).drew, (blk_far (p := ⟨g, 0, none⟩) hn1 _).trans ((blk_set hbx 0 _).trans rfl), A, c, hs, h1, h2,
    (blk_set ((blk_far (p := ⟨bx, 0, none⟩) (Ne.symm hn1) _).trans hg) 0 _).trans rfl⟩
set_option maxRecDepth 100000 in
set_option maxHeartbeats 2000000 in
theorem bool1_ok (wb : World) (g br bx : Nat) (A : Option Addr) (c : Nat) (x : Int) (t : List Int) (w : World) [hw : Later wb w] (hA : SlAt U8.cells 1 wb A (x :: t)) (hlc : t.length + 1 ≤ c) (hcm : c ≤ maxLen) (ho : x ≤ 1)
    (hg : w.heap[g]? = some (.cells #[.slice A (t.length + 1) c, .int .i64 0] 135 (0, 0))) (hbr : w.heap[br]? = some (.cells #[.pointer (some ⟨g, 0, none⟩)] 103 (0, 0))) (hbx : w.heap[bx]? = some (.cells #[.bool false] 4 (0, 0)))
    (hgw : wb.heap.size ≤ g) (hbw : wb.heap.size ≤ bx) (hn1 : bx ≠ g) (hn2 : br ≠ g) (hn3 : br ≠ bx) :
    Calls Try.prog 86 #[.pointer (some ⟨br, 0, none⟩), .pointer (some ⟨bx, 0, none⟩)] w fun r w' => r = .returned (.int .i64 0) ∧ BOk wb g bx x t w w' := by
  have BG := boxed hg
  have BR := boxed hbr
  have BX := boxed hbx
  obtain ⟨b, off, rfl, hbl, K0⟩ := byte_at hA (k := 0) (x := x) rfl
  rw [Nat.add_zero] at K0
  have hx : decide (1 < x) = false := by simpa using ho
  have hcc : (1 : Int) ≤ (c : Int) := by omega
  have hbrc : w.cell? ⟨br, 0, none⟩ = some (.pointer (some ⟨g, 0, none⟩)) := ((BR w).2 0).1.trans rfl
  have hw1 : (1 : Int) ≤ (t.length : Int) + 1 := by omega
  go_enter Try.func86, Try.ntmps86
  go_upto_region 3 with fail
  have hbyc : w.cell? ⟨b, off, none⟩ = some (.int .u8 x) := K0 w
  have hdr : SlAt U8.cells 1 wb (some ⟨b, off + 1, none⟩) t := by simpa using SlAt.drop hA 1
  have hne1 : b ≠ bx := by omega
  have hne2 : b ≠ g := by omega
  refine wp_region_held_drew (S := fun w' => w'.cell? ⟨br, 0, none⟩ = some (.pointer (some ⟨g, 0, none⟩)) ∧ w'.cell? ⟨b, off, none⟩ = some (.int .u8 x)) (by kernel_rfl) ⟨hbrc, hbyc⟩ (fun hHeld => ?_)
  clear K0 BR
  refine wpAnyH_take (i := 0) (oi := _) (v := ?_) rfl (by kernel_rfl) (by kernel_rfl) (by kernel_rfl) (fun _ _ _ h => h) (Or.inl ⟨by rfl, ?_⟩) (by assumption) ?_
  rotate_left 1
  · (intro wy hSw; (try dsimp only at hSw); go_simp; try with_reducible rfl)
  (try simp only [Act.put])
  refine wpAnyH_take (i := 1) (oi := _) (v := ?_) rfl (by kernel_rfl) (by kernel_rfl) (by kernel_rfl) (fun _ _ _ h => h) (Or.inl ⟨by rfl, ?_⟩) (by assumption) ?_
  rotate_left 1
  · (intro wy hSw; (try dsimp only at hSw); go_simp; try with_reducible rfl)
  (try simp only [Act.put])
  refine wpAnyH_take (i := 2) (oi := _) (v := ?_) rfl (by kernel_rfl) (by kernel_rfl) (by kernel_rfl) (fun _ _ _ h => h) (Or.inl ⟨by rfl, ?_⟩) (by assumption) ?_
  rotate_left 1
  · (intro wy hSw; (try dsimp only at hSw); go_simp; try with_reducible rfl)
  (try simp only [Act.put])
  refine wpAnyH_take (i := 3) (oi := _) (v := ?_) rfl (by kernel_rfl) (by kernel_rfl) (by kernel_rfl) (fun _ _ _ h => h) (Or.inl ⟨by rfl, ?_⟩) (by assumption) ?_
  rotate_left 1
  · (intro wy hSw; (try dsimp only at hSw); go_simp; try with_reducible rfl)
  (try simp only [Act.put])
  refine wpAnyH_take (i := 8) (oi := _) (v := ?_) rfl (by kernel_rfl) (by kernel_rfl) (by kernel_rfl) (fun _ _ _ h => h) (Or.inl ⟨by rfl, ?_⟩) (by assumption) ?_
  rotate_left 1
  · (intro wy hSw; (try dsimp only at hSw); go_simp; try with_reducible rfl)
  (try simp only [Act.put])
  refine wpAnyH_take (i := 9) (oi := _) (v := ?_) rfl (by kernel_rfl) (by kernel_rfl) (by kernel_rfl) (fun _ _ _ h => h) (Or.inl ⟨by rfl, ?_⟩) (by assumption) ?_
  rotate_left 1
  · (intro wy hSw; (try dsimp only at hSw); go_simp; try with_reducible rfl)
  (try simp only [Act.put])
  refine wpAnyH_take (i := 10) (oi := _) (v := ?_) rfl (by kernel_rfl) (by kernel_rfl) (by kernel_rfl) (fun _ _ _ h => h) (Or.inl ⟨by rfl, ?_⟩) (by assumption) ?_
  rotate_left 1
  · (intro wy hSw; (try dsimp only at hSw); go_simp; try with_reducible rfl)
  (try simp only [Act.put])
  refine wpAnyH_ready (rs := [4, 11]) (by kernel_rfl) (by simp) ?_
  refine AllReadyH.cons (o := _) rfl (fun K9 hK9 => ?_) (AllReadyH.cons (o := _) rfl (fun K9 hK9 => ?_) AllReadyH.nil)
  · go_simp
    refine hK9.out _ _ (by exact ⟨hbrc, hbyc⟩) (fun hHeld => ?_)
    clear hK9 K9
    (try simp only [Act.put])
    refine wpAnyH_take (i := 5) (oi := _) (v := ?_) rfl (by kernel_rfl) (by kernel_rfl) (by kernel_rfl) (fun _ _ _ h => h) (Or.inl ⟨by rfl, ?_⟩) (by assumption) ?_
    rotate_left 1
    · (intro wy hSw; (try dsimp only at hSw); go_simp; try with_reducible rfl)
    (try simp only [Act.put])
    refine wpAnyH_take (i := 6) (oi := _) (v := ?_) rfl (by kernel_rfl) (by kernel_rfl) (by kernel_rfl) (fun _ _ _ h => h) (Or.inl ⟨by rfl, ?_⟩) (by assumption) ?_
    rotate_left 1
    · (intro wy hSw; (try dsimp only at hSw); go_simp; try with_reducible rfl)
    (try simp only [Act.put])
    refine wpAnyH_take (i := 7) (oi := _) (v := ?_) rfl (by kernel_rfl) (by kernel_rfl) (by kernel_rfl) (fun _ _ _ h => h) (Or.inl ⟨by rfl, ?_⟩) (by assumption) ?_
    rotate_left 1
    · (intro wy hSw; (try dsimp only at hSw); go_simp; try with_reducible rfl)
    (try simp only [Act.put])
    refine wpAnyH_ready (rs := [11, 13]) (by kernel_rfl) (by simp) ?_
    refine AllReadyH.cons (o := _) rfl (fun K9 hK9 => ?_) (AllReadyH.cons (o := _) rfl (fun K9 hK9 => ?_) AllReadyH.nil)
    · go_simp
      refine hK9.out _ _ (by exact ⟨hbrc, hbyc⟩) (fun hHeld => ?_)
      clear hK9 K9
      (try simp only [Act.put])
      refine wpAnyH_take (i := 12) (oi := _) (v := ?_) rfl (by kernel_rfl) (by kernel_rfl) (by kernel_rfl) (fun _ _ _ h => h) (Or.inl ⟨by rfl, ?_⟩) (by assumption) ?_
      rotate_left 1
      · (intro wy hSw; (try dsimp only at hSw); go_simp; try with_reducible rfl)
      (try simp only [Act.put])
      refine wpAnyH_ready (rs := [13]) (by kernel_rfl) (by simp) ?_
      refine AllReadyH.cons (o := _) rfl (fun K9 hK9 => ?_) AllReadyH.nil
      go_simp
      refine hK9.out _ _ (by exact ⟨Eq.trans (World.cell?_setCell_far _ ⟨bx, 0, none⟩ _ _ (fun e => hn3 e.symm)) hbrc, Eq.trans (World.cell?_setCell_far _ ⟨bx, 0, none⟩ _ _ (fun e => hne1 e.symm)) hbyc⟩) (fun hHeld => ?_)
      clear hK9 K9
      (try simp only [Act.put])
      refine wpAnyH_take (i := 14) (oi := _) (v := ?_) rfl (by kernel_rfl) (by kernel_rfl) (by kernel_rfl) (fun _ _ _ h => h) (Or.inl ⟨by rfl, ?_⟩) (by assumption) ?_
      rotate_left 1
      · (intro wy hSw; (try dsimp only at hSw); go_simp; try with_reducible rfl)
      (try simp only [Act.put])
      refine wpAnyH_take (i := 15) (oi := _) (v := ?_) rfl (by kernel_rfl) (by kernel_rfl) (by kernel_rfl) (fun _ _ _ h => h) (Or.inl ⟨by rfl, ?_⟩) (by assumption) ?_
      rotate_left 1
      · (intro wy hSw; (try dsimp only at hSw); go_simp; try with_reducible rfl)
      (try simp only [Act.put])
      refine wpAnyH_ready (rs := [16]) (by kernel_rfl) (by simp) ?_
      refine AllReadyH.cons (o := _) rfl (fun K9 hK9 => ?_) AllReadyH.nil
      go_simp
      refine hK9.out _ _ (by exact ⟨Eq.trans (World.cell?_setCell_far _ ⟨g, 0, none⟩ _ _ (fun e => hn2 e.symm)) (Eq.trans (World.cell?_setCell_far _ ⟨bx, 0, none⟩ _ _ (fun e => hn3 e.symm)) hbrc), Eq.trans (World.cell?_setCell_far _ ⟨g, 0, none⟩ _ _ (fun e => hne2 e.symm)) (Eq.trans (World.cell?_setCell_far _ ⟨bx, 0, none⟩ _ _ (fun e => hne1 e.symm)) hbyc)⟩) (fun hHeld => ?_)
      clear hK9 K9
      (try simp only [Act.put])
      refine wpAnyH_done (by kernel_rfl) ?_ _
      go_wp2_with fail
      all_goals go_ret
      all_goals first
        | exact ⟨rfl, bok_of (some ⟨b, off + 1, none⟩) _ hg hbx hn1 hdr (by omega) (by omega)⟩
        | exact ⟨rfl, bok_of (some ⟨b, off, none⟩) _ hg hbx hn1 (slAt_zero (by omega)) (by omega) (by omega)⟩
    · go_simp
      refine hK9.out _ _ (by exact ⟨Eq.trans (World.cell?_setCell_far _ ⟨bx, 0, none⟩ _ _ (fun e => hn3 e.symm)) hbrc, Eq.trans (World.cell?_setCell_far _ ⟨bx, 0, none⟩ _ _ (fun e => hne1 e.symm)) hbyc⟩) (fun hHeld => ?_)
      clear hK9 K9
      (try simp only [Act.put])
      refine wpAnyH_ready (rs := [11]) (by kernel_rfl) (by simp) ?_
      refine AllReadyH.cons (o := _) rfl (fun K9 hK9 => ?_) AllReadyH.nil
      go_simp
      refine hK9.out _ _ (by exact ⟨Eq.trans (World.cell?_setCell_far _ ⟨bx, 0, none⟩ _ _ (fun e => hn3 e.symm)) hbrc, Eq.trans (World.cell?_setCell_far _ ⟨bx, 0, none⟩ _ _ (fun e => hne1 e.symm)) hbyc⟩) (fun hHeld => ?_)
      clear hK9 K9
      (try simp only [Act.put])
      refine wpAnyH_take (i := 12) (oi := _) (v := ?_) rfl (by kernel_rfl) (by kernel_rfl) (by kernel_rfl) (fun _ _ _ h => h) (Or.inl ⟨by rfl, ?_⟩) (by assumption) ?_
      rotate_left 1
      · (intro wy hSw; (try dsimp only at hSw); go_simp; try with_reducible rfl)
      (try simp only [Act.put])
      refine wpAnyH_take (i := 14) (oi := _) (v := ?_) rfl (by kernel_rfl) (by kernel_rfl) (by kernel_rfl) (fun _ _ _ h => h) (Or.inl ⟨by rfl, ?_⟩) (by assumption) ?_
      rotate_left 1
      · (intro wy hSw; (try dsimp only at hSw); go_simp; try with_reducible rfl)
      (try simp only [Act.put])
      refine wpAnyH_take (i := 15) (oi := _) (v := ?_) rfl (by kernel_rfl) (by kernel_rfl) (by kernel_rfl) (fun _ _ _ h => h) (Or.inl ⟨by rfl, ?_⟩) (by assumption) ?_
      rotate_left 1
      · (intro wy hSw; (try dsimp only at hSw); go_simp; try with_reducible rfl)
      (try simp only [Act.put])
      refine wpAnyH_ready (rs := [16]) (by kernel_rfl) (by simp) ?_
      refine AllReadyH.cons (o := _) rfl (fun K9 hK9 => ?_) AllReadyH.nil
      go_simp
      refine hK9.out _ _ (by exact ⟨Eq.trans (World.cell?_setCell_far _ ⟨g, 0, none⟩ _ _ (fun e => hn2 e.symm)) (Eq.trans (World.cell?_setCell_far _ ⟨bx, 0, none⟩ _ _ (fun e => hn3 e.symm)) hbrc), Eq.trans (World.cell?_setCell_far _ ⟨g, 0, none⟩ _ _ (fun e => hne2 e.symm)) (Eq.trans (World.cell?_setCell_far _ ⟨bx, 0, none⟩ _ _ (fun e => hne1 e.symm)) hbyc)⟩) (fun hHeld => ?_)
      clear hK9 K9
      (try simp only [Act.put])
      refine wpAnyH_done (by kernel_rfl) ?_ _
      go_wp2_with fail
      all_goals go_ret
      all_goals first
        | exact ⟨rfl, bok_of (some ⟨b, off + 1, none⟩) _ hg hbx hn1 hdr (by omega) (by omega)⟩
        | exact ⟨rfl, bok_of (some ⟨b, off, none⟩) _ hg hbx hn1 (slAt_zero (by omega)) (by omega) (by omega)⟩
  · go_simp
    refine hK9.out _ _ (by exact ⟨hbrc, hbyc⟩) (fun hHeld => ?_)
    clear hK9 K9
    (try simp only [Act.put])
    refine wpAnyH_take (i := 12) (oi := _) (v := ?_) rfl (by kernel_rfl) (by kernel_rfl) (by kernel_rfl) (fun _ _ _ h => h) (Or.inl ⟨by rfl, ?_⟩) (by assumption) ?_
    rotate_left 1
    · (intro wy hSw; (try dsimp only at hSw); go_simp; try with_reducible rfl)
    (try simp only [Act.put])
    refine wpAnyH_ready (rs := [4]) (by kernel_rfl) (by simp) ?_
    refine AllReadyH.cons (o := _) rfl (fun K9 hK9 => ?_) AllReadyH.nil
    go_simp
    refine hK9.out _ _ (by exact ⟨hbrc, hbyc⟩) (fun hHeld => ?_)
    clear hK9 K9
    (try simp only [Act.put])
    refine wpAnyH_take (i := 5) (oi := _) (v := ?_) rfl (by kernel_rfl) (by kernel_rfl) (by kernel_rfl) (fun _ _ _ h => h) (Or.inl ⟨by rfl, ?_⟩) (by assumption) ?_
    rotate_left 1
    · (intro wy hSw; (try dsimp only at hSw); go_simp; try with_reducible rfl)
    (try simp only [Act.put])
    refine wpAnyH_take (i := 6) (oi := _) (v := ?_) rfl (by kernel_rfl) (by kernel_rfl) (by kernel_rfl) (fun _ _ _ h => h) (Or.inl ⟨by rfl, ?_⟩) (by assumption) ?_
    rotate_left 1
    · (intro wy hSw; (try dsimp only at hSw); go_simp; try with_reducible rfl)
    (try simp only [Act.put])
    refine wpAnyH_take (i := 7) (oi := _) (v := ?_) rfl (by kernel_rfl) (by kernel_rfl) (by kernel_rfl) (fun _ _ _ h => h) (Or.inl ⟨by rfl, ?_⟩) (by assumption) ?_
    rotate_left 1
    · (intro wy hSw; (try dsimp only at hSw); go_simp; try with_reducible rfl)
    (try simp only [Act.put])
    refine wpAnyH_ready (rs := [13]) (by kernel_rfl) (by simp) ?_
    refine AllReadyH.cons (o := _) rfl (fun K9 hK9 => ?_) AllReadyH.nil
    go_simp
    refine hK9.out _ _ (by exact ⟨Eq.trans (World.cell?_setCell_far _ ⟨bx, 0, none⟩ _ _ (fun e => hn3 e.symm)) hbrc, Eq.trans (World.cell?_setCell_far _ ⟨bx, 0, none⟩ _ _ (fun e => hne1 e.symm)) hbyc⟩) (fun hHeld => ?_)
    clear hK9 K9
    (try simp only [Act.put])
    refine wpAnyH_take (i := 14) (oi := _) (v := ?_) rfl (by kernel_rfl) (by kernel_rfl) (by kernel_rfl) (fun _ _ _ h => h) (Or.inl ⟨by rfl, ?_⟩) (by assumption) ?_
    rotate_left 1
    · (intro wy hSw; (try dsimp only at hSw); go_simp; try with_reducible rfl)
    (try simp only [Act.put])
    refine wpAnyH_take (i := 15) (oi := _) (v := ?_) rfl (by kernel_rfl) (by kernel_rfl) (by kernel_rfl) (fun _ _ _ h => h) (Or.inl ⟨by rfl, ?_⟩) (by assumption) ?_
    rotate_left 1
    · (intro wy hSw; (try dsimp only at hSw); go_simp; try with_reducible rfl)
    (try simp only [Act.put])
    refine wpAnyH_ready (rs := [16]) (by kernel_rfl) (by simp) ?_
    refine AllReadyH.cons (o := _) rfl (fun K9 hK9 => ?_) AllReadyH.nil
    go_simp
    refine hK9.out _ _ (by exact ⟨Eq.trans (World.cell?_setCell_far _ ⟨g, 0, none⟩ _ _ (fun e => hn2 e.symm)) (Eq.trans (World.cell?_setCell_far _ ⟨bx, 0, none⟩ _ _ (fun e => hn3 e.symm)) hbrc), Eq.trans (World.cell?_setCell_far _ ⟨g, 0, none⟩ _ _ (fun e => hne2 e.symm)) (Eq.trans (World.cell?_setCell_far _ ⟨bx, 0, none⟩ _ _ (fun e => hne1 e.symm)) hbyc)⟩) (fun hHeld => ?_)
    clear hK9 K9
    (try simp only [Act.put])
    refine wpAnyH_done (by kernel_rfl) ?_ _
    go_wp2_with fail
    all_goals go_ret
    all_goals first
      | exact ⟨rfl, bok_of (some ⟨b, off + 1, none⟩) _ hg hbx hn1 hdr (by omega) (by omega)⟩
      | exact ⟨rfl, bok_of (some ⟨b, off, none⟩) _ hg hbx hn1 (slAt_zero (by omega)) (by omega) (by omega)⟩
theorem rdB_eq (st : List Int × Int) : rdB st = if st.2 = 0 then (match st.1 with | [] => (false, ([], 11)) | x :: t => if x ≤ 1 then (x == 1, (t, 0)) else (false, ([], 11))) else (false, st) := by
  unfold rdB
  split
  · cases st.1 with
    | nil => rfl
    | cons x t => by_cases h : x ≤ 1 <;> simp [okB1, h]
  · rfl
set_option maxRecDepth 100000 in
set_option maxHeartbeats 4000000 in
theorem bool_any (wb : World) (g : Nat) (st : List Int × Int) (w : World) (R : RD wb g w st) :
    Calls Try.prog 52 #[.pointer (some ⟨g, 0, none⟩)] w (RPost (.bool (rdB st).1) wb g (rdB st).2 w) := by
  obtain ⟨l, e⟩ := st
  obtain ⟨A, c, hA, hlc, hcm, hg⟩ := R.s
  have hby := R.by_
  have hgw := R.gw
  simp only at hA hlc hg hby
  have lw : Later wb w := ⟨R.lw⟩
  have hgl := blk_lt hg
  have hws := R.lw.size
  obtain ⟨n, st', hr⟩ : ∃ n st', rdB (l, e) = (n, st') := ⟨_, _, rfl⟩
  rw [hr]
  go_enter Try.func52, Try.ntmps52
  go_upto_region 2 with fail
  refine wp_name ?_
  intro w1 hw1
  have l1 := later_name' hw1 (inferInstance : Later w _)
  have hb1 : w1.heap[w.heap.size]? = some (.cells #[.pointer (some ⟨g, 0, none⟩)] 103 (0, 0)) := (by rw [← hw1]; simp only [heap_alloc_if, World.size_alloc]; repeat (first | rw [if_pos trivial] | rw [if_neg (by omega)] | rw [if_pos (by omega)]); try rfl)
  have hn1 : w1.heap[w.heap.size + 1]? = some (.cells #[.bool false] 4 (0, 0)) := (by rw [← hw1]; simp only [heap_alloc_if, World.size_alloc]; repeat (first | rw [if_pos trivial] | rw [if_neg (by omega)] | rw [if_pos (by omega)]); try rfl)
  have hbel : Below w.heap.size w w1 := below_of
  have hg1 := (hbel.block g hgl).trans hg
  clear hw1
  have BG := boxed hg1
  have BR := boxed hb1
  have BN := boxed hn1
  by_cases he : e = 0
  rotate_left
  · rw [rdB_eq] at hr
    simp only [he, if_false] at hr
    obtain ⟨rfl, rfl⟩ := Prod.mk.inj hr
    clear hr
    go_wp2_with (go_at_call 83; refine (show Calls _ _ _ _ (TNot w1) from try_not _ e he hg1).mono ?_)
    intro r w2 h2
    obtain ⟨rfl, hb2⟩ := h2
    have l2 := later hb2
    go_wp2_with fail
    go_ret
    exact ⟨rfl, ⟨(below_of : Below wb.heap.size wb w2), hgw, ⟨A, c, hA, hlc, hcm, (hb2.block g (blk_lt hg1)).trans hg1⟩, hby⟩, Only.of_below below_of⟩
  subst he
  cases ho : okB1 l
  · rw [show rdB (l, 0) = (false, ([], 11)) by simp [rdB, ho]] at hr
    obtain ⟨rfl, rfl⟩ := Prod.mk.inj hr
    clear hr
    have HC := bool1_bad wb g w.heap.size (w.heap.size + 1) A c l w1 hA ho hg1 hb1
    have HT : Calls Try.prog _ _ w1 (TBad (Below w1.heap.size w1) g 11) := tryB_bad (Q := Below w1.heap.size w1) (by decide) _ _ hg1 HC (fun w' hb => ⟨_, (hb.block g (blk_lt hg1)).trans hg1⟩)
    go_wp2_with (go_at_call 83; refine HT.mono ?_)
    intro r w3 h3
    obtain ⟨rfl, w2, hb2, ho3, hg3⟩ := h3
    have hon : Only (fun k => k = g) w w3 := (Only.of_below hbel).trans (Only.trans (Only.mono (s := fun k => k = g) (Only.of_below hb2) (fun k _ h => h)) ho3)
    have BN3 := boxed ((ho3.block _ (blk_lt ((hb2.block _ (blk_lt hn1)).trans hn1)) (by omega)).trans ((hb2.block _ (blk_lt hn1)).trans hn1))
    go_wp2_with fail
    go_ret
    exact ⟨rfl, ⟨(hon.below (B := wb.heap.size) (fun k e => by subst e; exact hgw) hws |> R.lw.trans), hgw, ⟨none, 0, SlAt.nil, by simp, by simp, hg3⟩, fun x hx => by cases hx⟩, hon⟩
  · cases l with
    | nil => cases ho
    | cons x t =>
      have hx1 : x ≤ 1 := by simpa [okB1] using ho
      rw [rdB_eq] at hr
      simp only [if_true, hx1] at hr
      obtain ⟨rfl, rfl⟩ := Prod.mk.inj hr
      clear hr
      have HC := bool1_ok wb g w.heap.size (w.heap.size + 1) A c x t w1 hA (by simpa using hlc) hcm hx1 (by simpa using hg1) hb1 hn1 hgw (by omega) (by omega) (by omega) (by omega)
      have HT : Calls Try.prog _ _ w1 (TOk (BOk wb g (w.heap.size + 1) x t w1) g) := tryB_ok (Q := BOk wb g (w.heap.size + 1) x t w1) _ _ hg1 HC (fun w' h => by obtain ⟨_, _, A', c', _, _, _, h⟩ := h; exact ⟨_, h⟩)
      go_wp2_with (go_at_call 83; refine HT.mono ?_)
      intro r w3 h3
      obtain ⟨rfl, w2, ⟨hon2, hbn2, A', c', hA', hlc', hcm', hg2⟩, ho3, hg3⟩ := h3
      have hon1 : Only (fun k => k = g ∨ k = w.heap.size + 1) w1 w3 := hon2.trans (ho3.mono fun k _ h => .inl h)
      have hon : Only (fun k => k = g) w w3 := (Only.of_below hbel).trans' hon1 (fun k hk h => by rcases h with h | h; exact h; omega)
      have BN3 := boxed ((ho3.block _ (blk_lt hbn2) (by omega)).trans hbn2)
      go_wp2_with fail
      go_ret
      exact ⟨rfl, ⟨(hon.below (B := wb.heap.size) (fun k e => by subst e; exact hgw) hws |> R.lw.trans), hgw, ⟨A', c', hA', hlc', hcm', hg3.trans hg2⟩, hby.tail⟩, hon⟩
end Go.Proofs.Ytomgdkfoinojiaa

namespace Go.Proofs.Ytomgdkfoinojiaa
open Go.RowKit
attribute [local go_sem] Instr.makeFunc
/-! Count -/
def cntE (m n : Int) (k : Nat) : Int := if m < n then 8 else if (k : Int) < n then 11 else 0
set_option maxRecDepth 100000 in
set_option maxHeartbeats 2000000 in
theorem count1_any (bm bn br g : Nat) (m n e : Int) (A : Option Addr) (c k : Nat) (w : World) (hm0 : 0 ≤ m) (hm1 : m ≤ 1000000) (hk : k ≤ 9223372036854775807)
    (hg : w.heap[g]? = some (.cells #[.slice A k c, .int .i64 e] 135 (0, 0))) (hbr : w.heap[br]? = some (.cells #[.pointer (some ⟨g, 0, none⟩)] 103 (0, 0)))
    (hbm : w.heap[bm]? = some (.cells #[.int .i64 m] 3 (0, 0))) (hbn : w.heap[bn]? = some (.cells #[.int .u64 n] 38 (0, 0))) :
    Calls Try.prog 85 #[.pointer (some ⟨bm, 0, none⟩), .pointer (some ⟨bn, 0, none⟩), .pointer (some ⟨br, 0, none⟩)] w fun r w' => r = .returned (.int .i64 (cntE m n k)) ∧ Below w.heap.size w w' := by
  have BG := boxed hg
  have BR := boxed hbr
  have BM := boxed hbm
  have BN := boxed hbn
  have hm : decide (m < 0) = false := by simpa using hm0
  by_cases h1 : m < n
  · have hc := hide (show cntE m n k = 8 by simp [cntE, h1])
    go_enter Try.func85, Try.ntmps85
    go_wp2_with fail
    go_ret
    exact ⟨ret_int hc.out.symm, below_of⟩
  have h1' : decide (m < n) = false := by simpa using h1
  by_cases h2 : (k : Int) < n
  · have hc := hide (show cntE m n k = 11 by simp [cntE, h1, h2])
    go_enter Try.func85, Try.ntmps85
    go_upto_region 3 with fail
    (refine wp_region_after (by kernel_rfl) (by kernel_rfl) ?_
     repeat (any_goals (first | go_big_quiet_skip | (go_big_quiet_want; go_big_quiet_op; first | go_big_quiet_on | go_big_quiet_call (fail)) | quiet_step (fail) | (refine wpQuiet_step (fun K hK => ?_); go_simp; split <;> (refine hK _ ?_; clear hK K))))
     all_goals (refine wpQuiet_nil ?_; intro _ hw'; obtain ⟨u', hw''⟩ := hw'; subst hw''; obtain ⟨wd, hbd⟩ := u'; simp only [After.val_mk]))
    have ld := later hbd
    go_wp2_with fail
    go_ret
    exact ⟨ret_int hc.out.symm, below_of⟩
  · have hc := hide (show cntE m n k = 0 by simp [cntE, h1, h2])
    have h2' : decide ((k : Int) < n) = false := by simpa using h2
    go_enter Try.func85, Try.ntmps85
    go_upto_region 3 with fail
    (refine wp_region_after (by kernel_rfl) (by kernel_rfl) ?_
     repeat (any_goals (first | go_big_quiet_skip | (go_big_quiet_want; go_big_quiet_op; first | go_big_quiet_on | go_big_quiet_call (fail)) | quiet_step (fail) | (refine wpQuiet_step (fun K hK => ?_); go_simp; split <;> (refine hK _ ?_; clear hK K))))
     all_goals (refine wpQuiet_nil ?_; intro _ hw'; obtain ⟨u', hw''⟩ := hw'; subst hw''; obtain ⟨wd, hbd⟩ := u'; simp only [After.val_mk]))
    have ld := later hbd
    go_wp2_with fail
    go_ret
    exact ⟨ret_int hc.out.symm, below_of⟩
def rdC (m : Int) (st : List Int × Int) : Int × (List Int × Int) := if (rdU st).2.2 = 0 then (if cntE m (rdU st).1 (rdU st).2.1.length = 0 then rdU st else (0, ([], cntE m (rdU st).1 (rdU st).2.1.length))) else (0, (rdU st).2)
set_option maxRecDepth 100000 in
set_option maxHeartbeats 4000000 in
theorem count_any (wb : World) (g : Nat) (m : Int) (st : List Int × Int) (w : World) (R : RD wb g w st) (hm0 : 0 ≤ m) (hm1 : m ≤ 1000000) :
    Calls Try.prog 51 #[.pointer (some ⟨g, 0, none⟩), .int .i64 m] w (RPost (.int .i64 (rdC m st).1) wb g (rdC m st).2 w) := by
  obtain ⟨A0, c0, hA0, hlc0, hcm0, hg0⟩ := R.s
  have hgl := blk_lt hg0
  have hgw := R.gw
  have lw : Later wb w := ⟨R.lw⟩
  have hws := R.lw.size
  have hur := rdU_range R.by_
  obtain ⟨x, hx⟩ : ∃ x, rdC m st = x := ⟨_, rfl⟩
  rw [hx]
  obtain ⟨u, hu⟩ : ∃ u, rdU st = u := ⟨_, rfl⟩
  unfold rdC at hx
  rw [hu] at hx hur
  obtain ⟨n, l, e⟩ := u
  simp only at hx hur
  go_enter Try.func51, Try.ntmps51
  go_upto_region 1 with fail
  refine wp_name ?_
  intro w1 hw1
  have l1 := later_name' hw1 (inferInstance : Later w _)
  have hb1 : w1.heap[w.heap.size]? = some (.cells #[.pointer (some ⟨g, 0, none⟩)] 103 (0, 0)) := (by rw [← hw1]; simp only [heap_alloc_if, World.size_alloc]; repeat (first | rw [if_pos trivial] | rw [if_neg (by omega)] | rw [if_pos (by omega)]); try rfl)
  have hm1' : w1.heap[w.heap.size + 1]? = some (.cells #[.int .i64 m] 3 (0, 0)) := (by rw [← hw1]; simp only [heap_alloc_if, World.size_alloc]; repeat (first | rw [if_pos trivial] | rw [if_neg (by omega)] | rw [if_pos (by omega)]); try rfl)
  have hbel : Below w.heap.size w w1 := below_of
  have hsz1 := hide (show w1.heap.size = w.heap.size + 1 + 1 by rw [← hw1]; simp)
  clear hw1
  have R1 : RD wb g w1 st := ⟨R.lw.trans (hbel.mono hws), hgw, ⟨A0, c0, hA0, hlc0, hcm0, (hbel.block g hgl).trans hg0⟩, R.by_⟩
  have BR := boxed hb1
  have BM := boxed hm1'
  have HU := uint_any wb g st w1 R1
  rw [hu] at HU
  go_wp2_with (go_at_call 50; refine HU.mono ?_)
  intro r w2 h2
  obtain ⟨rfl, R2, hon2⟩ := h2
  obtain ⟨A, c, hA, hlc, hcm, hg2⟩ := R2.s
  simp only at hA hlc hg2
  have hb2 := hon2.boxed hb1 (by omega)
  have hm2 := hon2.boxed hm1' (by omega)
  have hs2 := hon2.size
  have hsz2 : w.heap.size + 1 + 1 ≤ w2.heap.size := by rw [← hsz1.out]; exact hs2
  clear BR BM R1
  go_upto_region 2 with fail
  refine wp_name ?_
  intro w3 hw3
  have l3 := later_name' hw3 (inferInstance : Later w2 _)
  have hn3 : w3.heap[w2.heap.size]? = some (.cells #[.int .u64 n] 38 (0, 0)) := (by rw [← hw3]; simp only [heap_alloc_if, World.size_alloc]; repeat (first | rw [if_pos trivial] | rw [if_neg (by omega)] | rw [if_pos (by omega)]); try rfl)
  have hbel3 : Below w2.heap.size w2 w3 := below_of
  clear hw3
  have hb3 := (hbel3.block _ (blk_lt hb2)).trans hb2
  have hm3 := (hbel3.block _ (blk_lt hm2)).trans hm2
  have hg3 := (hbel3.block _ (blk_lt hg2)).trans hg2
  have BR := boxed hb3
  have BM := boxed hm3
  have BN := boxed hn3
  have BG := boxed hg3
  have hon3 : Only (fun k => k = g) w w3 := ((Only.of_below hbel).trans hon2).trans (Only.of_below hbel3)
  have hk63 : l.length ≤ 9223372036854775807 := by have : maxLen ≤ 9223372036854775807 := by unfold maxLen; omega
                                                   omega
  by_cases he : e = 0
  rotate_left
  · rw [if_neg he] at hx
    subst hx
    go_wp2_with (go_at_call 83; refine (show Calls _ _ _ _ (TNot w3) from try_not _ e he hg3).mono ?_)
    intro r w4 h4
    obtain ⟨rfl, hb4⟩ := h4
    have l4 := later hb4
    have hon : Only (fun k => k = g) w w4 := hon3.trans (Only.of_below hb4)
    go_wp2_with fail
    go_ret
    exact ⟨rfl, ⟨(hon.below (B := wb.heap.size) (fun k e => by subst e; exact hgw) hws |> R.lw.trans), hgw, ⟨A, c, hA, hlc, hcm, (hb4.block g (blk_lt hg3)).trans hg3⟩, R2.by_⟩, hon⟩
  subst he
  rw [if_pos rfl] at hx
  have HC := count1_any (w.heap.size + 1) w2.heap.size w.heap.size g m n 0 A c l.length w3 hm0 hm1 hk63 hg3 hb3 hm3 hn3
  by_cases hc : cntE m n l.length = 0
  · rw [if_pos hc] at hx
    subst hx
    rw [hc] at HC
    have hnm : n ≤ 1000000 := by unfold cntE at hc; split at hc; cases hc; omega
    have HT : Calls Try.prog _ _ w3 (TOk (Below w3.heap.size w3) g) := tryC_ok (Q := Below w3.heap.size w3) _ _ _ hg3 HC (fun w' hb => ⟨_, (hb.block g (blk_lt hg3)).trans hg3⟩)
    go_wp2_with (go_at_call 83; refine HT.mono ?_)
    intro r w5 h5
    obtain ⟨rfl, w4, hb4, ho5, hg5⟩ := h5
    have hn4 := (hb4.block _ (blk_lt hn3)).trans hn3
    have BN5 := boxed ((ho5.block _ (blk_lt hn4) (by omega)).trans hn4)
    have hon : Only (fun k => k = g) w w5 := (hon3.trans (Only.of_below hb4)).trans ho5
    go_wp2_with fail
    go_ret
    exact ⟨rfl, ⟨(hon.below (B := wb.heap.size) (fun k e => by subst e; exact hgw) hws |> R.lw.trans), hgw, ⟨A, c, hA, hlc, hcm, hg5.trans ((hb4.block g (blk_lt hg3)).trans hg3)⟩, R2.by_⟩, hon⟩
  · rw [if_neg hc] at hx
    subst hx
    have HT : Calls Try.prog _ _ w3 (TBad (Below w3.heap.size w3) g (cntE m n l.length)) := tryC_bad (Q := Below w3.heap.size w3) hc _ _ _ hg3 HC (fun w' hb => ⟨_, (hb.block g (blk_lt hg3)).trans hg3⟩)
    go_wp2_with (go_at_call 83; refine HT.mono ?_)
    intro r w5 h5
    obtain ⟨rfl, w4, hb4, ho5, hg5⟩ := h5
    have hon : Only (fun k => k = g) w w5 := (hon3.trans (Only.of_below hb4)).trans ho5
    go_wp2_with fail
    go_ret
    exact ⟨rfl, ⟨(hon.below (B := wb.heap.size) (fun k e => by subst e; exact hgw) hws |> R.lw.trans), hgw, ⟨none, 0, SlAt.nil, by simp, by simp, hg5⟩, fun x hx => by cases hx⟩, hon⟩
set_option maxHeartbeats 1000000 in
theorem done_any (wb : World) (g : Nat) (st : List Int × Int) (w : World) (R : RD wb g w st) :
    Calls Try.prog 53 #[.pointer (some ⟨g, 0, none⟩)] w fun r w' => r = .returned (.int .i64 (if st.2 = 0 ∧ st.1 ≠ [] then 11 else st.2)) ∧ Below w.heap.size w w' := by
  obtain ⟨l, e⟩ := st
  obtain ⟨A, c, hA, hlc, hcm, hg⟩ := R.s
  simp only at hA hlc hg
  have BG := boxed hg
  have hk63 : l.length ≤ 9223372036854775807 := by have : maxLen ≤ 9223372036854775807 := by unfold maxLen; omega
                                                   omega
  by_cases he : e = 0
  · subst he
    cases l with
    | nil =>
      go_enter Try.func53, Try.ntmps53
      go_wp2_with fail
      go_ret
      exact ⟨by simp, below_of⟩
    | cons x t =>
      have h0 : (0 : Int) < (t.length : Int) + 1 := by omega
      simp only [List.length_cons] at hg BG hlc hk63
      go_enter Try.func53, Try.ntmps53
      go_wp2_with fail
      all_goals (try (exfalso; omega))
      all_goals go_ret
      all_goals exact ⟨by simp, below_of⟩
  · have he' : (e == 0) = false := by simp [he]
    go_enter Try.func53, Try.ntmps53
    go_wp2_with fail
    go_ret
    exact ⟨by simp [he], below_of⟩
end Go.Proofs.Ytomgdkfoinojiaa
