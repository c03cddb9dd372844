/-
  Contracts of the functions of this seat that each theorem names: what a call returns, and that it writes nothing that was there before. The conditions stand in each theorem.
-/
import Derived.Test.YtgddapgdeaeggaaC23Walk4
namespace Go.Proofs.Ytgddapgdeaeggaa
open Go.RowKit
def touchE (e : StubE) : StubE := { e with touched := true }
def useE (n : Int) (e : StubE) : StubE := { e with lastUse := max e.lastUse n, touched := true }
/-- What a function that changes the entry in box b gives. -/
def HowPost (w : World) (b : Nat) (e : StubE) (r : Ending) (w' : World) : Prop := r = .returned (.tuple #[]) ∧ w'.heap[b]? = some (.cells e.arr 37 (0, 0)) ∧ w.grownBy w' (some b)
theorem grown_set {w : World} {b i : Nat} {v : Value} : w.grownBy (w.setCell ⟨b, i, none⟩ v) (some b) := grown_setCell w ⟨b, i, none⟩ v
set_option maxHeartbeats 1000000 in
theorem touch1_any (b : Nat) (e : StubE) (w : World) (h : w.heap[b]? = some (.cells e.arr 37 (0, 0))) : Calls Try.prog 45 #[.pointer (some ⟨b, 0, none⟩)] w (HowPost w b (touchE e)) := by
  have c := fun i => blk_cell h i
  have z := fun i => blk_free h i
  have hs := hide (blk_set h 7 (.bool true))
  clear h
  go_enter Try.func45, Try.ntmps45
  go_wp2_with fail
  go_end0
  exact ⟨rfl, hs.out, grown_set⟩
set_option maxHeartbeats 1000000 in
theorem use1_any (b s : Nat) (n : Int) (e : StubE) (w : World) (h : w.heap[b]? = some (.cells e.arr 37 (0, 0))) (hs : w.cell? ⟨s, 0, none⟩ = some (.int .i64 n)) : Calls Try.prog 46 #[.pointer (some ⟨b, 0, none⟩), .pointer (some ⟨s, 0, none⟩)] w (HowPost w b (useE n e)) := by
  have c := fun i => blk_cell h i
  have z := fun i => blk_free h i
  have hm : max e.lastUse n = if e.lastUse < n then n else e.lastUse := by split <;> omega
  have hs2 := hide (show ((w.setCell ⟨b, 5, none⟩ (.int .i64 (if e.lastUse < n then n else e.lastUse))).setCell ⟨b, 7, none⟩ (.bool true)).heap[b]? = some (.cells (useE n e).arr 37 (0, 0)) by
    rw [← hm]; exact blk_set (blk_set h 5 _) 7 (.bool true))
  clear h hm
  go_enter Try.func46, Try.ntmps46
  refine wp_region_held_drew (S := fun _ => True) (by kernel_rfl) trivial (fun hHeld => ?_)
  refine wpAnyH_take (i := 0) (oi := _) (v := ?_) rfl (by kernel_rfl) (by kernel_rfl) (by kernel_rfl) (fun _ _ _ h => h) (Or.inl ⟨by rfl, ?_⟩) (by assumption) ?_
  rotate_left 1
  · (intro wy hSw; (try dsimp only at hSw); go_simp; try with_reducible rfl)
  (try simp only [Act.put, List.setIfInBounds_toArray, List.set_cons_zero, List.set_cons_succ])
  refine wpAnyH_take (i := 1) (oi := _) (v := ?_) rfl (by kernel_rfl) (by kernel_rfl) (by kernel_rfl) (fun _ _ _ h => h) (Or.inl ⟨by rfl, ?_⟩) (by assumption) ?_
  rotate_left 1
  · (intro wy hSw; (try dsimp only at hSw); go_simp; try with_reducible rfl)
  (try simp only [Act.put, List.setIfInBounds_toArray, List.set_cons_zero, List.set_cons_succ])
  refine wpAnyH_take (i := 2) (oi := _) (v := ?_) rfl (by kernel_rfl) (by kernel_rfl) (by kernel_rfl) (fun _ _ _ h => h) (Or.inl ⟨by rfl, ?_⟩) (by assumption) ?_
  rotate_left 1
  · (intro wy hSw; (try dsimp only at hSw); go_simp; try with_reducible rfl)
  (try simp only [Act.put, List.setIfInBounds_toArray, List.set_cons_zero, List.set_cons_succ])
  refine wpAnyH_take (i := 3) (oi := _) (v := ?_) rfl (by kernel_rfl) (by kernel_rfl) (by kernel_rfl) (fun _ _ _ h => h) (Or.inl ⟨by rfl, ?_⟩) (by assumption) ?_
  rotate_left 1
  · (intro wy hSw; (try dsimp only at hSw); go_simp; try with_reducible rfl)
  (try simp only [Act.put, List.setIfInBounds_toArray, List.set_cons_zero, List.set_cons_succ])
  refine wpAnyH_take (i := 4) (oi := _) (v := ?_) rfl (by kernel_rfl) (by kernel_rfl) (by kernel_rfl) (fun _ _ _ h => h) (Or.inl ⟨by rfl, ?_⟩) (by assumption) ?_
  rotate_left 1
  · (intro wy hSw; (try dsimp only at hSw); go_simp; try with_reducible rfl)
  (try simp only [Act.put, List.setIfInBounds_toArray, List.set_cons_zero, List.set_cons_succ])
  refine wpAnyH_ready (rs := [5, 6]) (by kernel_rfl) (by simp) ?_
  refine AllReadyH.cons (o := _) rfl (fun K9 hK9 => ?_) (AllReadyH.cons (o := _) rfl (fun K9 hK9 => ?_) AllReadyH.nil)
  · go_simp
    refine hK9.out _ _ (by trivial) (fun hHeld => ?_)
    clear hK9 K9
    (try simp only [Act.put, List.setIfInBounds_toArray, List.set_cons_zero, List.set_cons_succ])
    refine wpAnyH_ready (rs := [6]) (by kernel_rfl) (by simp) ?_
    refine AllReadyH.cons (o := _) rfl (fun K9 hK9 => ?_) AllReadyH.nil
    go_simp
    refine hK9.out _ _ (by trivial) (fun hHeld => ?_)
    clear hK9 K9
    (try simp only [Act.put, List.setIfInBounds_toArray, List.set_cons_zero, List.set_cons_succ])
    refine wpAnyH_ready (rs := [7]) (by kernel_rfl) (by simp) ?_
    refine AllReadyH.cons (o := _) rfl (fun K9 hK9 => ?_) AllReadyH.nil
    go_simp
    refine hK9.out _ _ (by trivial) (fun hHeld => ?_)
    clear hK9 K9
    (try simp only [Act.put, List.setIfInBounds_toArray, List.set_cons_zero, List.set_cons_succ])
    refine wpAnyH_take (i := 8) (oi := _) (v := ?_) rfl (by kernel_rfl) (by kernel_rfl) (by kernel_rfl) (fun _ _ _ h => h) (Or.inl ⟨by rfl, ?_⟩) (by assumption) ?_
    rotate_left 1
    · (intro wy hSw; (try dsimp only at hSw); go_simp; try with_reducible rfl)
    (try simp only [Act.put, List.setIfInBounds_toArray, List.set_cons_zero, List.set_cons_succ])
    refine wpAnyH_take (i := 9) (oi := _) (v := ?_) rfl (by kernel_rfl) (by kernel_rfl) (by kernel_rfl) (fun _ _ _ h => h) (Or.inl ⟨by rfl, ?_⟩) (by assumption) ?_
    rotate_left 1
    · (intro wy hSw; (try dsimp only at hSw); go_simp; try with_reducible rfl)
    (try simp only [Act.put, List.setIfInBounds_toArray, List.set_cons_zero, List.set_cons_succ])
    refine wpAnyH_ready (rs := [10]) (by kernel_rfl) (by simp) ?_
    refine AllReadyH.cons (o := _) rfl (fun K9 hK9 => ?_) AllReadyH.nil
    go_simp
    refine hK9.out _ _ (by trivial) (fun hHeld => ?_)
    clear hK9 K9
    (try simp only [Act.put, List.setIfInBounds_toArray, List.set_cons_zero, List.set_cons_succ])
    refine wpAnyH_take (i := 11) (oi := _) (v := ?_) rfl (by kernel_rfl) (by kernel_rfl) (by kernel_rfl) (fun _ _ _ h => h) (Or.inl ⟨by rfl, ?_⟩) (by assumption) ?_
    rotate_left 1
    · (intro wy hSw; (try dsimp only at hSw); go_simp; try with_reducible rfl)
    (try simp only [Act.put, List.setIfInBounds_toArray, List.set_cons_zero, List.set_cons_succ])
    refine wpAnyH_take (i := 12) (oi := _) (v := ?_) rfl (by kernel_rfl) (by kernel_rfl) (by kernel_rfl) (fun _ _ _ h => h) (Or.inl ⟨by rfl, ?_⟩) (by assumption) ?_
    rotate_left 1
    · (intro wy hSw; (try dsimp only at hSw); go_simp; try with_reducible rfl)
    (try simp only [Act.put, List.setIfInBounds_toArray, List.set_cons_zero, List.set_cons_succ])
    refine wpAnyH_ready (rs := [13]) (by kernel_rfl) (by simp) ?_
    refine AllReadyH.cons (o := _) rfl (fun K9 hK9 => ?_) AllReadyH.nil
    go_simp
    refine hK9.out _ _ (by trivial) (fun hHeld => ?_)
    clear hK9 K9
    (try simp only [Act.put, List.setIfInBounds_toArray, List.set_cons_zero, List.set_cons_succ])
    refine wpAnyH_done (by kernel_rfl) ?_ _
    go_end0
    exact ⟨rfl, hs2.out, (Gro.drew (g := b) (h := ⟨grown_set.trans grown_set⟩)).out⟩
  · go_simp
    refine hK9.out _ _ (by trivial) (fun hHeld => ?_)
    clear hK9 K9
    (try simp only [Act.put, List.setIfInBounds_toArray, List.set_cons_zero, List.set_cons_succ])
    refine wpAnyH_ready (rs := [5]) (by kernel_rfl) (by simp) ?_
    refine AllReadyH.cons (o := _) rfl (fun K9 hK9 => ?_) AllReadyH.nil
    go_simp
    refine hK9.out _ _ (by trivial) (fun hHeld => ?_)
    clear hK9 K9
    (try simp only [Act.put, List.setIfInBounds_toArray, List.set_cons_zero, List.set_cons_succ])
    refine wpAnyH_ready (rs := [7]) (by kernel_rfl) (by simp) ?_
    refine AllReadyH.cons (o := _) rfl (fun K9 hK9 => ?_) AllReadyH.nil
    go_simp
    refine hK9.out _ _ (by trivial) (fun hHeld => ?_)
    clear hK9 K9
    (try simp only [Act.put, List.setIfInBounds_toArray, List.set_cons_zero, List.set_cons_succ])
    refine wpAnyH_take (i := 8) (oi := _) (v := ?_) rfl (by kernel_rfl) (by kernel_rfl) (by kernel_rfl) (fun _ _ _ h => h) (Or.inl ⟨by rfl, ?_⟩) (by assumption) ?_
    rotate_left 1
    · (intro wy hSw; (try dsimp only at hSw); go_simp; try with_reducible rfl)
    (try simp only [Act.put, List.setIfInBounds_toArray, List.set_cons_zero, List.set_cons_succ])
    refine wpAnyH_take (i := 9) (oi := _) (v := ?_) rfl (by kernel_rfl) (by kernel_rfl) (by kernel_rfl) (fun _ _ _ h => h) (Or.inl ⟨by rfl, ?_⟩) (by assumption) ?_
    rotate_left 1
    · (intro wy hSw; (try dsimp only at hSw); go_simp; try with_reducible rfl)
    (try simp only [Act.put, List.setIfInBounds_toArray, List.set_cons_zero, List.set_cons_succ])
    refine wpAnyH_ready (rs := [10]) (by kernel_rfl) (by simp) ?_
    refine AllReadyH.cons (o := _) rfl (fun K9 hK9 => ?_) AllReadyH.nil
    go_simp
    refine hK9.out _ _ (by trivial) (fun hHeld => ?_)
    clear hK9 K9
    (try simp only [Act.put, List.setIfInBounds_toArray, List.set_cons_zero, List.set_cons_succ])
    refine wpAnyH_take (i := 11) (oi := _) (v := ?_) rfl (by kernel_rfl) (by kernel_rfl) (by kernel_rfl) (fun _ _ _ h => h) (Or.inl ⟨by rfl, ?_⟩) (by assumption) ?_
    rotate_left 1
    · (intro wy hSw; (try dsimp only at hSw); go_simp; try with_reducible rfl)
    (try simp only [Act.put, List.setIfInBounds_toArray, List.set_cons_zero, List.set_cons_succ])
    refine wpAnyH_take (i := 12) (oi := _) (v := ?_) rfl (by kernel_rfl) (by kernel_rfl) (by kernel_rfl) (fun _ _ _ h => h) (Or.inl ⟨by rfl, ?_⟩) (by assumption) ?_
    rotate_left 1
    · (intro wy hSw; (try dsimp only at hSw); go_simp; try with_reducible rfl)
    (try simp only [Act.put, List.setIfInBounds_toArray, List.set_cons_zero, List.set_cons_succ])
    refine wpAnyH_ready (rs := [13]) (by kernel_rfl) (by simp) ?_
    refine AllReadyH.cons (o := _) rfl (fun K9 hK9 => ?_) AllReadyH.nil
    go_simp
    refine hK9.out _ _ (by trivial) (fun hHeld => ?_)
    clear hK9 K9
    (try simp only [Act.put, List.setIfInBounds_toArray, List.set_cons_zero, List.set_cons_succ])
    refine wpAnyH_done (by kernel_rfl) ?_ _
    go_end0
    exact ⟨rfl, hs2.out, (Gro.drew (g := b) (h := ⟨grown_set.trans grown_set⟩)).out⟩
def chErr (l : List StubE) (k : KeyE) : Int := if hasK l k then 0 else 6
def chT (F : StubE → StubE) (l : List StubE) (k : KeyE) : List StubE := match findK keyE l k with | some e => putK keyE l (F e) | none => l
def remT (l : List StubE) (k : KeyE) : List StubE := remK keyE l k
set_option maxRecDepth 100000 in
set_option maxHeartbeats 4000000 in
theorem changeTouch_any (p g : Nat) (l : List StubE) (k : KeyE) (w : World) (h : TabAt w p g l)  : Calls Try.prog 44 #[.pointer (some ⟨p, 0, none⟩), .int .i64 k.owner, .int .u64 k.number, .func (.func 45) #[] #[]] w (MutPost w p g (chErr l k) (chT touchE l k)) := by
  have hp := h.cell
  have hT := h.later
  have hpg := h.ne
  obtain ⟨hlg, hlp⟩ : g < w.heap.size ∧ p < w.heap.size := ⟨h.2.lt, blk_lt h.1⟩
  cases hf : findK keyE l k with
  | none =>
    have He := hide (show chErr l k = 6 by unfold chErr hasK; rw [hf]; rfl)
    have Ht := hide (show chT touchE l k = l by unfold chT; rw [hf])
    have HF : ∀ u [Later w u], Calls Try.prog 18 #[.pointer (some ⟨p, 0, none⟩), .int .i64 k.owner, .int .u64 k.number] u fun r w' => r = .returned (.tuple #[zeroE.v, .bool false]) ∧ Below u.heap.size u w' := fun u i => by
      have := find_any p g l k.owner k.number u (hT u)
      rw [show (⟨k.owner, k.number⟩ : KeyE) = k from rfl, hf] at this
      exact this
    clear hf
    go_enter Try.func44, Try.ntmps44
    go_wp2_with (go_at_call 18; refine (HF _).mono ?_; rintro r w1 ⟨rfl, hb1⟩; have l1 := later hb1)
    go_ret
    exact ⟨ret_int He.out.symm, by rw [Ht.out]; exact hT _, gro_of⟩
  | some x =>
    obtain ⟨e, he⟩ : ∃ e, e = touchE x := ⟨_, rfl⟩
    have He := hide (show chErr l k = 0 by unfold chErr hasK; rw [hf]; rfl)
    have Ht := hide (show chT touchE l k = putK keyE l e by unfold chT; rw [hf, he])
    have HF : ∀ u [Later w u], Calls Try.prog 18 #[.pointer (some ⟨p, 0, none⟩), .int .i64 k.owner, .int .u64 k.number] u fun r w' => r = .returned (.tuple #[x.v, .bool true]) ∧ Below u.heap.size u w' := fun u i => by
      have := find_any p g l k.owner k.number u (hT u)
      rw [show (⟨k.owner, k.number⟩ : KeyE) = k from rfl, hf] at this
      exact this
    have HW : ∀ (b : Nat) (u : World) [Later w u], u.heap[b]? = some (.cells x.arr 37 (0, 0)) → Calls Try.prog 45 #[.pointer (some ⟨b, 0, none⟩), ] u (HowPost u b e) := fun b u i hb => by
      rw [he]; exact touch1_any b x u hb
    obtain ⟨o, ho1, ho2⟩ := run_put_stub h.2 e
    clear hf he
    go_enter Try.func44, Try.ntmps44
    go_upto_region 4 with (go_at_call 18; refine (HF _).mono ?_; rintro r w1 ⟨rfl, hb1⟩; have l1 := later hb1)
    have hz1 : w.heap.size ≤ w1.heap.size := hb1.size
    refine wp_name ?_
    intro w2 hw2
    obtain ⟨B9, l2⟩ := box1 hw2
    clear hw2
    go_upto_region 5 with (go_at_call 45; refine (HW w1.heap.size _ (B9 _).1).mono ?_)
    rintro r w3 ⟨rfl, hb3, hg3⟩
    have hbw : Below w.heap.size w w3 := (show Below w.heap.size w w2 from below_of).trans (grown_belowG hg3 hz1 (below_of (b := w) (w := w2)).size)
    have l3 := later hbw
    have B0 := boxed hb3
    go_upto_region 5 with fail
    refine wp_name ?_
    intro w6 hw6
    have l6 := later_name' hw6 (inferInstance : Later w3 _)
    clear hw6
    have gp := Gro.cell (g := g) (b := w) (a := ⟨p, 0, none⟩) hpg (hp w)
    have gB := boxed_gro B0 (g := g) (by omega)
    go_region_held3 (fun w' => ∀ b [Gro g b w6], Gro g b w') ((intro b _; infer_instance))
      ((first | (go_at_call 58; refine (keyOf_any e _).mono ?_; rintro r w7 ⟨rfl, hb7⟩; have l7 := later hb7; have g7 := gro_below (g := g) hb7)))
    all_goals go_wp2_with fail
    go_ret
    exact ⟨ret_int He.out.symm, ⟨(putAt_heap hpg).trans (hT _).1, by rw [Ht.out]; exact ho2 _⟩, gro_of⟩

set_option maxRecDepth 100000 in
set_option maxHeartbeats 4000000 in
theorem changeUse_any (p g : Nat) (l : List StubE) (k : KeyE) (w : World) (h : TabAt w p g l)(n : Int) (s : Nat) (hs : w.cell? ⟨s, 0, none⟩ = some (.int .i64 n)) : Calls Try.prog 44 #[.pointer (some ⟨p, 0, none⟩), .int .i64 k.owner, .int .u64 k.number, .func (.func 46) #[] #[.pointer (some ⟨s, 0, none⟩)]] w (MutPost w p g (chErr l k) (chT (useE n) l k)) := by
  have hp := h.cell
  have hT := h.later
  have hpg := h.ne
  obtain ⟨hlg, hlp⟩ : g < w.heap.size ∧ p < w.heap.size := ⟨h.2.lt, blk_lt h.1⟩
  cases hf : findK keyE l k with
  | none =>
    have He := hide (show chErr l k = 6 by unfold chErr hasK; rw [hf]; rfl)
    have Ht := hide (show chT (useE n) l k = l by unfold chT; rw [hf])
    have HF : ∀ u [Later w u], Calls Try.prog 18 #[.pointer (some ⟨p, 0, none⟩), .int .i64 k.owner, .int .u64 k.number] u fun r w' => r = .returned (.tuple #[zeroE.v, .bool false]) ∧ Below u.heap.size u w' := fun u i => by
      have := find_any p g l k.owner k.number u (hT u)
      rw [show (⟨k.owner, k.number⟩ : KeyE) = k from rfl, hf] at this
      exact this
    clear hf
    go_enter Try.func44, Try.ntmps44
    go_wp2_with (go_at_call 18; refine (HF _).mono ?_; rintro r w1 ⟨rfl, hb1⟩; have l1 := later hb1)
    go_ret
    exact ⟨ret_int He.out.symm, by rw [Ht.out]; exact hT _, gro_of⟩
  | some x =>
    obtain ⟨e, he⟩ : ∃ e, e = (useE n) x := ⟨_, rfl⟩
    have He := hide (show chErr l k = 0 by unfold chErr hasK; rw [hf]; rfl)
    have Ht := hide (show chT (useE n) l k = putK keyE l e by unfold chT; rw [hf, he])
    have HF : ∀ u [Later w u], Calls Try.prog 18 #[.pointer (some ⟨p, 0, none⟩), .int .i64 k.owner, .int .u64 k.number] u fun r w' => r = .returned (.tuple #[x.v, .bool true]) ∧ Below u.heap.size u w' := fun u i => by
      have := find_any p g l k.owner k.number u (hT u)
      rw [show (⟨k.owner, k.number⟩ : KeyE) = k from rfl, hf] at this
      exact this
    have HW : ∀ (b : Nat) (u : World) [Later w u], u.heap[b]? = some (.cells x.arr 37 (0, 0)) → Calls Try.prog 46 #[.pointer (some ⟨b, 0, none⟩), .pointer (some ⟨s, 0, none⟩)] u (HowPost u b e) := fun b u i hb => by
      rw [he]; exact use1_any b s n x u hb (Later.cell hs u)
    obtain ⟨o, ho1, ho2⟩ := run_put_stub h.2 e
    clear hf he
    go_enter Try.func44, Try.ntmps44
    go_upto_region 4 with (go_at_call 18; refine (HF _).mono ?_; rintro r w1 ⟨rfl, hb1⟩; have l1 := later hb1)
    have hz1 : w.heap.size ≤ w1.heap.size := hb1.size
    refine wp_name ?_
    intro w2 hw2
    obtain ⟨B9, l2⟩ := box1 hw2
    clear hw2
    go_upto_region 5 with (go_at_call 46; refine (HW w1.heap.size _ (B9 _).1).mono ?_)
    rintro r w3 ⟨rfl, hb3, hg3⟩
    have hbw : Below w.heap.size w w3 := (show Below w.heap.size w w2 from below_of).trans (grown_belowG hg3 hz1 (below_of (b := w) (w := w2)).size)
    have l3 := later hbw
    have B0 := boxed hb3
    go_upto_region 5 with fail
    refine wp_name ?_
    intro w6 hw6
    have l6 := later_name' hw6 (inferInstance : Later w3 _)
    clear hw6
    have gp := Gro.cell (g := g) (b := w) (a := ⟨p, 0, none⟩) hpg (hp w)
    have gB := boxed_gro B0 (g := g) (by omega)
    go_region_held3 (fun w' => ∀ b [Gro g b w6], Gro g b w') ((intro b _; infer_instance))
      ((first | (go_at_call 58; refine (keyOf_any e _).mono ?_; rintro r w7 ⟨rfl, hb7⟩; have l7 := later hb7; have g7 := gro_below (g := g) hb7)))
    all_goals go_wp2_with fail
    go_ret
    exact ⟨ret_int He.out.symm, ⟨(putAt_heap hpg).trans (hT _).1, by rw [Ht.out]; exact ho2 _⟩, gro_of⟩
theorem touch_any (p g : Nat) (l : List StubE) (k : KeyE) (w : World) (h : TabAt w p g l) : Calls Try.prog 21 #[.pointer (some ⟨p, 0, none⟩), .int .i64 k.owner, .int .u64 k.number] w (MutPost w p g (chErr l k) (chT touchE l k)) := by
  have hT := h.later
  go_enter Try.func21, Try.ntmps21
  go_wp2_with (go_at_call 44; refine (changeTouch_any p g l k _ (hT _)).mono ?_; rintro r w1 ⟨rfl, h1, h2⟩)
  go_ret
  exact ⟨rfl, h1, h2⟩
def useErr (n : Int) (l : List StubE) (k : KeyE) : Int := if n < 0 then 1 else chErr l k
def useT (n : Int) (l : List StubE) (k : KeyE) : List StubE := if n < 0 then l else chT (useE n) l k
attribute [local go_sem] Instr.makeFunc
set_option maxHeartbeats 1000000 in
theorem use_any (p g : Nat) (l : List StubE) (k : KeyE) (n : Int) (w : World) (h : TabAt w p g l) : Calls Try.prog 22 #[.pointer (some ⟨p, 0, none⟩), .int .i64 k.owner, .int .u64 k.number, .int .i64 n] w (MutPost w p g (useErr n l k) (useT n l k)) := by
  have hT := h.later
  by_cases hn : n < 0
  · have He := hide (show useErr n l k = 1 by unfold useErr; rw [if_pos hn])
    have Ht := hide (show useT n l k = l by unfold useT; rw [if_pos hn])
    go_enter Try.func22, Try.ntmps22
    go_wp2_with fail
    go_ret
    exact ⟨ret_int He.out.symm, by rw [Ht.out]; exact hT _, gro_of⟩
  · have He := hide (show useErr n l k = chErr l k by unfold useErr; rw [if_neg hn])
    have Ht := hide (show useT n l k = chT (useE n) l k by unfold useT; rw [if_neg hn])
    go_enter Try.func22, Try.ntmps22
    go_upto_region 1 with fail
    refine wp_name ?_
    intro w0 hw0
    obtain ⟨B0, l0⟩ := box1 hw0
    clear hw0
    have hc : w0.cell? ⟨w.heap.size, 0, none⟩ = some (.int .i64 n) := ((B0 w0).2 0).1.trans rfl
    go_wp2_with (go_at_call 44; refine (changeUse_any p g l k _ (hT _) n w.heap.size hc).mono ?_; rintro r w1 ⟨rfl, h1, h2⟩)
    go_ret
    exact ⟨ret_int He.out.symm, by rw [Ht.out]; exact h1, World.grownBy.trans (gro_of (g := g) (b := w) (w := w0)) h2⟩
set_option maxHeartbeats 2000000 in
theorem remove_any (p g : Nat) (l : List StubE) (k : KeyE) (w : World) (h : TabAt w p g l) : Calls Try.prog 28 #[.pointer (some ⟨p, 0, none⟩), .int .i64 k.owner, .int .u64 k.number] w (MutPost w p g (chErr l k) (remK keyE l k)) := by
  have hp := h.cell
  have hT := h.later
  have hpg := h.ne
  obtain ⟨o, ho1, ho2⟩ := run_remL (ty := 0) keyL Try.underlying61 h.2 k
  have hdel : ∀ (u : World) [Later w u], (Builtin.delete_ #[61, 69] 0 #[.map (some g), .agg #[.int .i64 k.owner, .int .u64 k.number]]).run Try.prog u = .ok (.tuple #[]) (putAt u g o) := ho1
  obtain ⟨x, hx⟩ : ∃ x, x = (findK keyE l k).getD zeroE := ⟨_, rfl⟩
  obtain ⟨b, hb⟩ : ∃ b, b = hasK l k := ⟨_, rfl⟩
  have HF : ∀ u [Later w u], Calls Try.prog 18 #[.pointer (some ⟨p, 0, none⟩), .int .i64 k.owner, .int .u64 k.number] u fun r w' => r = .returned (.tuple #[x.v, .bool b]) ∧ Below u.heap.size u w' := fun u i => by
    have := find_any p g l k.owner k.number u (hT u)
    rw [hx, hb]; exact this
  have Hb := hide hb
  clear hx ho1 hb
  go_enter Try.func28, Try.ntmps28
  cases b
  · have He := hide (show chErr l k = 6 by unfold chErr; rw [← Hb.out]; rfl)
    have Ht := hide (show remK keyE l k = l from List.filter_eq_self.2 fun y hy => by
      have := Hb.out
      cases hf : findK keyE l k with
      | some z => unfold hasK at this; rw [hf] at this; cases this
      | none =>
        unfold findK at hf
        rw [List.find?_eq_none] at hf
        simpa using hf y hy)
    go_wp2_with (go_at_call 18; refine (HF _).mono ?_; rintro r w1 ⟨rfl, hb1⟩; have l1 := later hb1)
    go_ret
    exact ⟨ret_int He.out.symm, by rw [Ht.out]; exact hT _, gro_of⟩
  · have He := hide (show chErr l k = 0 by unfold chErr; rw [← Hb.out]; rfl)
    go_upto_region 4 with (go_at_call 18; refine (HF _).mono ?_; rintro r w1 ⟨rfl, hb1⟩; have l1 := later hb1)
    refine wp_name ?_
    intro w2 hw2
    have l2 := later_name' hw2 (inferInstance : Later w1 _)
    clear hw2
    go_wp2_with fail
    go_ret
    exact ⟨ret_int He.out.symm, ⟨(putAt_heap hpg).trans (hT _).1, ho2 _⟩, gro_of⟩
end Go.Proofs.Ytgddapgdeaeggaa
