/-
  Contracts of the functions of this seat that each theorem names: what a call returns, and that it writes nothing that was there before. The conditions stand in each theorem.
-/
import Derived.Test.YtgddapgdeaeggaaC23Walk3
namespace Go.Proofs.Ytgddapgdeaeggaa
open Go.RowKit
attribute [local go_sem ↓] run_eql_id
theorem later_setc {b w : World} {p : Addr} (hp : b.heap.size ≤ p.block) (v : Value) (h : Later b w) : Later b (w.setCell p v) := ⟨h.below.setCell hp v⟩
theorem heap_alloc_drew (w : World) (o : Obj) : (w.alloc o).drew.heap[w.heap.size]? = some o := heap_alloc_new w o
/-- What a call that changes a table gives: the error, the entries; nothing but the map's block was written. -/
def MutPost (w : World) (p g : Nat) (e : Int) (l : List StubE) (r : Ending) (w' : World) : Prop := r = .returned (.int .i64 e) ∧ TabAt w' p g l ∧ w.grownBy w' (some g)
def hasK (l : List StubE) (k : KeyE) : Bool := (findK keyE l k).isSome
def hasID (l : List StubE) (i : IDE) : Bool := (findK idE l i).isSome
def addErr (l : List StubE) (e : StubE) : Int := if validE e = false then 1 else if hasK l (keyE e) then 5 else if hasID l (idE e) then 5 else 0
def addT (l : List StubE) (e : StubE) : List StubE := if addErr l e = 0 then putK keyE l e else l
theorem run_put_stub {w : World} {g : Nat} {l : List StubE} (h : MapL KeyE.vv StubE.vv keyE w g l) (e : StubE) : ∃ o : Obj,
    (∀ (u : World) [Later w u], (Instr.mapUpdate 61 (.map (some g)) (.agg #[.int .i64 e.owner, .int .u64 e.number]) e.v).run Try.prog u = .ok () (putAt u g o)) ∧ ∀ (u : World) [Later w u], MapL KeyE.vv StubE.vv keyE (putAt u g o) g (putK keyE l e) := by
  obtain ⟨o, h1, h2, _⟩ := run_putL keyL Try.underlying61 h e
  exact ⟨o, h1, h2⟩
set_option maxRecDepth 100000 in
set_option maxHeartbeats 4000000 in
theorem add_any (p g : Nat) (l : List StubE) (e : StubE) (w : World) (h : TabAt w p g l) (hid : (l.map idE).Nodup) : Calls Try.prog 27 #[.pointer (some ⟨p, 0, none⟩), e.v] w (MutPost w p g (addErr l e) (addT l e)) := by
  have hp := h.cell
  have hT := h.later
  have hpg := h.ne
  obtain ⟨hlg, hlp⟩ : g < w.heap.size ∧ p < w.heap.size := ⟨h.2.lt, blk_lt h.1⟩
  obtain ⟨fx, hfx⟩ : ∃ x, x = (findK keyE l (keyE e)).getD zeroE := ⟨_, rfl⟩
  obtain ⟨fb, hfb⟩ : ∃ b, b = hasK l (keyE e) := ⟨_, rfl⟩
  have hlk : ∀ u [Later w u], (Instr.lookup 61 (.map (some g)) (.agg #[.int .i64 e.owner, .int .u64 e.number]) true).run Try.prog u = .ok (.tuple #[fx.v, .bool fb]) u := fun u i => by
    have := run_lookL keyL Try.underlying61 zeroStub (h.later u).2 (keyE e)
    rw [hfx, hfb]
    unfold hasK
    cases hf : findK keyE l (keyE e) <;> (rw [hf] at this; exact this)
  obtain ⟨ib, hib⟩ : ∃ b, b = hasID l (idE e) := ⟨_, rfl⟩
  obtain ⟨o, ho1, ho2⟩ := run_put_stub h.2 e
  have HB : ∀ u [Later w u], Calls Try.prog 19 #[.pointer (some ⟨p, 0, none⟩), .agg #[.int .i64 e.iDMachine, .int .i64 e.iDSerial]] u fun r w' => ∃ y : StubE, r = .returned (.tuple #[y.v, .bool ib]) ∧ Below u.heap.size u w' := fun u i => by
    refine (byID_any p g l (idE e) u (hT u) hid).mono ?_
    rintro r w' ⟨rfl, hb⟩
    exact ⟨_, by rw [hib]; rfl, hb⟩
  obtain ⟨vb, hvb⟩ : ∃ b, b = validE e := ⟨_, rfl⟩
  have HV : ∀ u, Calls Try.prog 57 #[e.v] u fun r w' => r = .returned (.bool vb) ∧ Below u.heap.size u w' := fun u => by rw [hvb]; exact valid_any e u
  have hadd := hide (show addErr l e = if vb = false then 1 else if fb then 5 else if ib then 5 else 0 by rw [hvb, hfb, hib]; rfl)
  have hid' := hide hid
  clear hfx hfb hib hvb hid
  go_enter Try.func27, Try.ntmps27
  go_upto_region 1 with fail
  refine wp_name ?_
  intro w0 hw0
  obtain ⟨B0, l0⟩ := box1 hw0
  clear hw0
  cases vb
  · have He := hide (show addErr l e = 1 by rw [hadd.out]; rfl)
    have Ht := hide (show addT l e = l by unfold addT; rw [He.out]; rfl)
    go_wp2_with (go_at_call 57; refine (HV _).mono ?_; rintro r w1 ⟨rfl, hb1⟩; have l1 := later hb1)
    go_ret
    exact ⟨ret_int He.out.symm, by rw [Ht.out]; exact hT _, gro_of⟩
  go_upto_region 3 with (go_at_call 57; refine (HV _).mono ?_; rintro r w1 ⟨rfl, hb1⟩; have l1 := later hb1)
  refine wp_region_held_drew (S := fun w' => ∀ b [Later b w1], Later b w') (by kernel_rfl) (by intro b _; infer_instance) (fun hHeld => ?_)
  refine wpAnyH_take (i := 0) (oi := _) (v := ?_) rfl (by kernel_rfl) (by kernel_rfl) (by kernel_rfl) (fun _ _ _ h => h) (Or.inl ⟨by rfl, ?_⟩) (by assumption) ?_
  rotate_left 1
  · (intro wy hSw; (try dsimp only at hSw); go_simp; try with_reducible rfl)
  (try simp only [Act.put, List.setIfInBounds_toArray, List.set_cons_zero, List.set_cons_succ])
  refine wpAnyH_take (i := 1) (oi := _) (v := ?_) rfl (by kernel_rfl) (by kernel_rfl) (by kernel_rfl) (fun _ _ _ h => h) (Or.inl ⟨by rfl, ?_⟩) (by assumption) ?_
  rotate_left 1
  · (intro wy hSw; (try dsimp only at hSw); go_simp; try with_reducible rfl)
  (try simp only [Act.put, List.setIfInBounds_toArray, List.set_cons_zero, List.set_cons_succ])
  refine wpAnyH_take (i := 2) (oi := _) (v := ?_) rfl (by kernel_rfl) (by kernel_rfl) (by kernel_rfl) (fun _ _ _ h => h) (Or.inl ⟨by rfl, ?_⟩) (by assumption) ?_
  rotate_left 1
  · (intro wy hSw; (try dsimp only at hSw); go_simp; try with_reducible rfl)
  (try simp only [Act.put, List.setIfInBounds_toArray, List.set_cons_zero, List.set_cons_succ])
  refine wpAnyH_take (i := 3) (oi := _) (v := ?_) rfl (by kernel_rfl) (by kernel_rfl) (by kernel_rfl) (fun _ _ _ h => h) (Or.inl ⟨by rfl, ?_⟩) (by assumption) ?_
  rotate_left 1
  · (intro wy hSw; (try dsimp only at hSw); go_simp; try with_reducible rfl)
  (try simp only [Act.put, List.setIfInBounds_toArray, List.set_cons_zero, List.set_cons_succ])
  refine wpAnyH_take (i := 4) (oi := _) (v := ?_) rfl (by kernel_rfl) (by kernel_rfl) (by kernel_rfl) (fun _ _ _ h => h) (Or.inl ⟨by rfl, ?_⟩) (by assumption) ?_
  rotate_left 1
  · (intro wy hSw; (try dsimp only at hSw); go_simp; try with_reducible rfl)
  (try simp only [Act.put, List.setIfInBounds_toArray, List.set_cons_zero, List.set_cons_succ])
  refine wpAnyH_ready (rs := [5, 10]) (by kernel_rfl) (by simp) ?_
  refine AllReadyH.cons (o := _) rfl (fun K9 hK9 => ?_) (AllReadyH.cons (o := _) rfl (fun K9 hK9 => ?_) AllReadyH.nil)
  · go_simp
    refine (keyOf_any e _).mono ?_
    rintro r w2 ⟨rfl, hb2⟩
    have l2 := later hb2
    have hz2 := hb2.size
    refine hK9.out _ _ (by (intro b hbi; have hbz := (hbi : Later b w1).below.size; repeat (first | infer_instance | (refine later_setc (by first | (simp only; omega) | (simp; omega)) _ ?_)))) (fun hHeld => ?_)
    clear hK9 K9
    (try simp only [Act.put, List.setIfInBounds_toArray, List.set_cons_zero, List.set_cons_succ])
    refine wpAnyH_take (i := 6) (oi := _) (v := ?_) rfl (by kernel_rfl) (by kernel_rfl) (by kernel_rfl) (fun _ _ _ h => h) (Or.inl ⟨by rfl, ?_⟩) (by assumption) ?_
    rotate_left 1
    · (intro wy hSw; (try dsimp only at hSw); go_simp; try with_reducible rfl)
    (try simp only [Act.put, List.setIfInBounds_toArray, List.set_cons_zero, List.set_cons_succ])
    refine wpAnyH_take (i := 7) (oi := _) (v := ?_) rfl (by kernel_rfl) (by kernel_rfl) (by kernel_rfl) (fun _ _ _ h => h) (Or.inl ⟨by rfl, ?_⟩) (by assumption) ?_
    rotate_left 1
    · (intro wy hSw; (try dsimp only at hSw); go_simp; try with_reducible rfl)
    (try simp only [Act.put, List.setIfInBounds_toArray, List.set_cons_zero, List.set_cons_succ])
    refine wpAnyH_take (i := 8) (oi := _) (v := ?_) rfl (by kernel_rfl) (by kernel_rfl) (by kernel_rfl) (fun _ _ _ h => h) (Or.inl ⟨by rfl, ?_⟩) (by assumption) ?_
    rotate_left 1
    · (intro wy hSw; (try dsimp only at hSw); go_simp; try with_reducible rfl)
    (try simp only [Act.put, List.setIfInBounds_toArray, List.set_cons_zero, List.set_cons_succ])
    refine wpAnyH_take (i := 9) (oi := _) (v := ?_) rfl (by kernel_rfl) (by kernel_rfl) (by kernel_rfl) (fun _ _ _ h => h) (Or.inl ⟨by rfl, ?_⟩) (by assumption) ?_
    rotate_left 1
    · (intro wy hSw; (try dsimp only at hSw); go_simp; try with_reducible rfl)
    (try simp only [Act.put, List.setIfInBounds_toArray, List.set_cons_zero, List.set_cons_succ])
    refine wpAnyH_ready (rs := [10]) (by kernel_rfl) (by simp) ?_
    refine AllReadyH.cons (o := _) rfl (fun K9 hK9 => ?_) AllReadyH.nil
    go_simp
    refine hK9.out _ _ (by (intro b hbi; have hbz := (hbi : Later b w1).below.size; repeat (first | infer_instance | (refine later_setc (by first | (simp only; omega) | (simp; omega)) _ ?_)))) (fun hHeld => ?_)
    clear hK9 K9
    (try simp only [Act.put, List.setIfInBounds_toArray, List.set_cons_zero, List.set_cons_succ])
    refine wpAnyH_ready (rs := [11]) (by kernel_rfl) (by simp) ?_
    refine AllReadyH.cons (o := _) rfl (fun K9 hK9 => ?_) AllReadyH.nil
    go_simp
    refine hK9.out _ _ (by (intro b hbi; have hbz := (hbi : Later b w1).below.size; repeat (first | infer_instance | (refine later_setc (by first | (simp only; omega) | (simp; omega)) _ ?_)))) (fun hHeld => ?_)
    clear hK9 K9
    (try simp only [Act.put, List.setIfInBounds_toArray, List.set_cons_zero, List.set_cons_succ])
    refine wpAnyH_take (i := 12) (oi := _) (v := ?_) rfl (by kernel_rfl) (by kernel_rfl) (by kernel_rfl) (fun _ _ _ h => h) (Or.inl ⟨by rfl, ?_⟩) (by assumption) ?_
    rotate_left 1
    · (intro wy hSw; (try dsimp only at hSw); go_simp; try with_reducible rfl)
    (try simp only [Act.put, List.setIfInBounds_toArray, List.set_cons_zero, List.set_cons_succ])
    refine wpAnyH_done (by kernel_rfl) ?_ _
    cases fb
    rotate_left
    · have He := hide (show addErr l e = 5 by rw [hadd.out]; rfl)
      have Ht := hide (show addT l e = l by unfold addT; rw [He.out]; rfl)
      go_upto_region 4 with fail
      go_wp2_with fail
      go_ret
      exact ⟨ret_int He.out.symm, by rw [Ht.out]; exact hT _, gro_of⟩
    go_upto_region 4 with fail
    go_upto_region 6 with fail
    refine wp_name ?_
    intro w4 hw4
    have l4 := later_name' hw4 (inferInstance : Later w1 _)
    clear hw4
    cases ib
    rotate_left
    · have He := hide (show addErr l e = 5 by rw [hadd.out]; rfl)
      have Ht := hide (show addT l e = l by unfold addT; rw [He.out]; rfl)
      go_wp2_with (go_at_call 19; refine (HB _).mono ?_; rintro r w5 ⟨y, rfl, hb5⟩; have l5 := later hb5)
      go_ret
      exact ⟨ret_int He.out.symm, by rw [Ht.out]; exact hT _, gro_of⟩
    have He := hide (show addErr l e = 0 by rw [hadd.out]; rfl)
    have Ht := hide (show addT l e = putK keyE l e by unfold addT; rw [He.out]; rfl)
    go_upto_region 9 with (go_at_call 19; refine (HB _).mono ?_; rintro r w5 ⟨y, rfl, hb5⟩; have l5 := later hb5)
    refine wp_name ?_
    intro w6 hw6
    have l6 := later_name' hw6 (inferInstance : Later w4 _)
    clear hw6
    have gp := Gro.cell (g := g) (b := w) (a := ⟨p, 0, none⟩) hpg (hp w)
    have gB := boxed_gro B0 (g := g) (by omega)
    go_region_held3 (fun w' => ∀ b [Gro g b w6], Gro g b w') ((intro b _; infer_instance))
      ((first | (go_at_call 58; refine (keyOf_any e _).mono ?_; rintro r w7 ⟨rfl, hb7⟩; have l7 := later hb7; have g7 := gro_below (g := g) hb7)))
    all_goals go_wp2_with fail
    go_ret
    exact ⟨ret_int He.out.symm, ⟨(putAt_heap hpg).trans (hT _).1, by rw [Ht.out]; exact ho2 _⟩, gro_of⟩
  · go_simp
    refine hK9.out _ _ (by (intro b hbi; have hbz := (hbi : Later b w1).below.size; repeat (first | infer_instance | (refine later_setc (by first | (simp only; omega) | (simp; omega)) _ ?_)))) (fun hHeld => ?_)
    clear hK9 K9
    (try simp only [Act.put, List.setIfInBounds_toArray, List.set_cons_zero, List.set_cons_succ])
    refine wpAnyH_ready (rs := [5]) (by kernel_rfl) (by simp) ?_
    refine AllReadyH.cons (o := _) rfl (fun K9 hK9 => ?_) AllReadyH.nil
    go_simp
    refine (keyOf_any e _).mono ?_
    rintro r w2 ⟨rfl, hb2⟩
    have l2 := later hb2
    have hz2 := hb2.size
    have q5 := blk_below (heap_alloc_drew _ _) hb2
    have q6 := fun i => blk_cell q5 i
    have q7 := fun i => blk_free q5 i
    clear q5
    refine hK9.out _ _ (by (intro b hbi; have hbz := (hbi : Later b w1).below.size; repeat (first | infer_instance | (refine later_setc (by first | (simp only; omega) | (simp; omega)) _ ?_)))) (fun hHeld => ?_)
    clear hK9 K9
    (try simp only [Act.put, List.setIfInBounds_toArray, List.set_cons_zero, List.set_cons_succ])
    refine wpAnyH_take (i := 6) (oi := _) (v := ?_) rfl (by kernel_rfl) (by kernel_rfl) (by kernel_rfl) (fun _ _ _ h => h) (Or.inl ⟨by rfl, ?_⟩) (by assumption) ?_
    rotate_left 1
    · (intro wy hSw; (try dsimp only at hSw); go_simp; try with_reducible rfl)
    (try simp only [Act.put, List.setIfInBounds_toArray, List.set_cons_zero, List.set_cons_succ])
    refine wpAnyH_take (i := 7) (oi := _) (v := ?_) rfl (by kernel_rfl) (by kernel_rfl) (by kernel_rfl) (fun _ _ _ h => h) (Or.inl ⟨by rfl, ?_⟩) (by assumption) ?_
    rotate_left 1
    · (intro wy hSw; (try dsimp only at hSw); go_simp; try with_reducible rfl)
    (try simp only [Act.put, List.setIfInBounds_toArray, List.set_cons_zero, List.set_cons_succ])
    refine wpAnyH_take (i := 8) (oi := _) (v := ?_) rfl (by kernel_rfl) (by kernel_rfl) (by kernel_rfl) (fun _ _ _ h => h) (Or.inl ⟨by rfl, ?_⟩) (by assumption) ?_
    rotate_left 1
    · (intro wy hSw; (try dsimp only at hSw); go_simp; try with_reducible rfl)
    (try simp only [Act.put, List.setIfInBounds_toArray, List.set_cons_zero, List.set_cons_succ])
    refine wpAnyH_take (i := 9) (oi := _) (v := ?_) rfl (by kernel_rfl) (by kernel_rfl) (by kernel_rfl) (fun _ _ _ h => h) (Or.inl ⟨by rfl, ?_⟩) (by assumption) ?_
    rotate_left 1
    · (intro wy hSw; (try dsimp only at hSw); go_simp; try with_reducible rfl)
    (try simp only [Act.put, List.setIfInBounds_toArray, List.set_cons_zero, List.set_cons_succ])
    refine wpAnyH_ready (rs := [11]) (by kernel_rfl) (by simp) ?_
    refine AllReadyH.cons (o := _) rfl (fun K9 hK9 => ?_) AllReadyH.nil
    go_simp
    refine hK9.out _ _ (by (intro b hbi; have hbz := (hbi : Later b w1).below.size; repeat (first | infer_instance | (refine later_setc (by first | (simp only; omega) | (simp; omega)) _ ?_)))) (fun hHeld => ?_)
    clear hK9 K9
    (try simp only [Act.put, List.setIfInBounds_toArray, List.set_cons_zero, List.set_cons_succ])
    refine wpAnyH_take (i := 12) (oi := _) (v := ?_) rfl (by kernel_rfl) (by kernel_rfl) (by kernel_rfl) (fun _ _ _ h => h) (Or.inl ⟨by rfl, ?_⟩) (by assumption) ?_
    rotate_left 1
    · (intro wy hSw; (try dsimp only at hSw); go_simp; try with_reducible rfl)
    (try simp only [Act.put, List.setIfInBounds_toArray, List.set_cons_zero, List.set_cons_succ])
    refine wpAnyH_done (by kernel_rfl) ?_ _
    cases fb
    rotate_left
    · have He := hide (show addErr l e = 5 by rw [hadd.out]; rfl)
      have Ht := hide (show addT l e = l by unfold addT; rw [He.out]; rfl)
      go_upto_region 4 with fail
      go_wp2_with fail
      go_ret
      exact ⟨ret_int He.out.symm, by rw [Ht.out]; exact hT _, gro_of⟩
    go_upto_region 4 with fail
    go_upto_region 6 with fail
    refine wp_name ?_
    intro w4 hw4
    have l4 := later_name' hw4 (inferInstance : Later w1 _)
    clear hw4
    cases ib
    rotate_left
    · have He := hide (show addErr l e = 5 by rw [hadd.out]; rfl)
      have Ht := hide (show addT l e = l by unfold addT; rw [He.out]; rfl)
      go_wp2_with (go_at_call 19; refine (HB _).mono ?_; rintro r w5 ⟨y, rfl, hb5⟩; have l5 := later hb5)
      go_ret
      exact ⟨ret_int He.out.symm, by rw [Ht.out]; exact hT _, gro_of⟩
    have He := hide (show addErr l e = 0 by rw [hadd.out]; rfl)
    have Ht := hide (show addT l e = putK keyE l e by unfold addT; rw [He.out]; rfl)
    go_upto_region 9 with (go_at_call 19; refine (HB _).mono ?_; rintro r w5 ⟨y, rfl, hb5⟩; have l5 := later hb5)
    refine wp_name ?_
    intro w6 hw6
    have l6 := later_name' hw6 (inferInstance : Later w4 _)
    clear hw6
    have gp := Gro.cell (g := g) (b := w) (a := ⟨p, 0, none⟩) hpg (hp w)
    have gB := boxed_gro B0 (g := g) (by omega)
    go_region_held3 (fun w' => ∀ b [Gro g b w6], Gro g b w') ((intro b _; infer_instance))
      ((first | (go_at_call 58; refine (keyOf_any e _).mono ?_; rintro r w7 ⟨rfl, hb7⟩; have l7 := later hb7; have g7 := gro_below (g := g) hb7)))
    all_goals go_wp2_with fail
    go_ret
    exact ⟨ret_int He.out.symm, ⟨(putAt_heap hpg).trans (hT _).1, by rw [Ht.out]; exact ho2 _⟩, gro_of⟩
end Go.Proofs.Ytgddapgdeaeggaa
