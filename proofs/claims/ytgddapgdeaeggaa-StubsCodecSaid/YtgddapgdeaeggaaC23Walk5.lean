/-
  Contracts of the functions of this seat that each theorem names: what a call returns, and that it writes nothing that was there before. The conditions stand in each theorem.
-/
import Derived.Test.YtgddapgdeaeggaaC23Walk4
namespace Go.Proofs.Ytgddapgdeaeggaa
open Go.RowKit
set_option maxHeartbeats 800000 in
theorem run_eql_KeyE (x y : KeyE) (w : World) : (binOp .eql 69 x.v y.v).run Try.prog w = .ok (.bool (KeyE.beq x y)) w := by
  have ht : Try.prog.underlying 69 = some (.struct (Try.prog.fieldsOf 69)) := by kernel_rfl
  have hp : Try.prog.stoodInHeld 69 = false := by kernel_rfl
  have hu := Try.underlying69
  rw [run_eql_struct, run_equalIn_struct w 9999 69 _ _ ht hp]
  obtain ⟨fs, hfs⟩ : ∃ fs, Try.prog.fieldsOf 69 = fs := ⟨_, rfl⟩
  rw [hfs] at ht ⊢
  rw [hu] at ht
  have ht2 := TypeDesc.struct.inj (Option.some.inj ht)
  subst ht2
  simp only [Op.eqFields, ne_eq]
  simp [go_sem, KeyE.beq]
  clear hfs hu ht hp
  by_cases h0 : x.owner = y.owner
  rotate_left
  · rw [if_neg h0]
    simp [beq_eq_false_iff_ne.2 h0]
  rw [if_pos h0]
  have e0 := beq_iff_eq.2 h0
  by_cases h1 : x.number = y.number
  rotate_left
  · rw [if_neg h1]
    simp [beq_eq_false_iff_ne.2 h1]
  rw [if_pos h1]
  have e1 := beq_iff_eq.2 h1
  simp only [e0, e1]
  rfl
set_option maxHeartbeats 800000 in
theorem run_neq_KeyE (x y : KeyE) (w : World) : (binOp .neq 69 x.v y.v).run Try.prog w = .ok (.bool (!KeyE.beq x y)) w := by
  have ht : Try.prog.underlying 69 = some (.struct (Try.prog.fieldsOf 69)) := by kernel_rfl
  have hp : Try.prog.stoodInHeld 69 = false := by kernel_rfl
  have hu := Try.underlying69
  rw [run_neq_struct, run_equalIn_struct w 9999 69 _ _ ht hp]
  obtain ⟨fs, hfs⟩ : ∃ fs, Try.prog.fieldsOf 69 = fs := ⟨_, rfl⟩
  rw [hfs] at ht ⊢
  rw [hu] at ht
  have ht2 := TypeDesc.struct.inj (Option.some.inj ht)
  subst ht2
  simp only [Op.eqFields, ne_eq]
  simp [go_sem, KeyE.beq]
  clear hfs hu ht hp
  by_cases h0 : x.owner = y.owner
  rotate_left
  · rw [if_neg h0]
    simp [beq_eq_false_iff_ne.2 h0]
  rw [if_pos h0]
  have e0 := beq_iff_eq.2 h0
  by_cases h1 : x.number = y.number
  rotate_left
  · rw [if_neg h1]
    simp [beq_eq_false_iff_ne.2 h1]
  rw [if_pos h1]
  have e1 := beq_iff_eq.2 h1
  simp only [e0, e1]
  rfl
def keq (a b c d : Int) : Bool := a == c && b == d
theorem run_neq_key (a b c d : Int) (w : World) : (binOp .neq 69 (.agg #[.int .i64 a, .int .u64 b]) (.agg #[.int .i64 c, .int .u64 d])).run Try.prog w = .ok (.bool (!keq a b c d)) w := run_neq_KeyE ⟨a, b⟩ ⟨c, d⟩ w
theorem keq_iff {x e : StubE} : keq x.owner x.number e.owner e.number = decide (keyE x = keyE e) := by
  rw [Bool.eq_iff_iff, decide_eq_true_eq, KeyE.ext_iff]
  simp [keq, keyE]
attribute [local go_sem ↓] run_eql_id run_neq_key
def putErr (l : List StubE) (e : StubE) : Int := if validE e = false then 1 else if hasK l (keyE e) = false then 6 else if (hasID l (idE e) && !decide (keyE ((findK idE l (idE e)).getD zeroE) = keyE e)) then 5 else 0
def putT (l : List StubE) (e : StubE) : List StubE := if putErr l e = 0 then putK keyE l e else l
set_option maxRecDepth 100000 in
set_option maxHeartbeats 8000000 in
theorem put_any (p g : Nat) (l : List StubE) (e : StubE) (w : World) (h : TabAt w p g l) (hid : (l.map idE).Nodup) : Calls Try.prog 41 #[.pointer (some ⟨p, 0, none⟩), e.v] w (MutPost w p g (putErr l e) (putT l e)) := by
  have hp := h.cell
  have hT := h.later
  have hpg := h.ne
  obtain ⟨hlg, hlp⟩ : g < w.heap.size ∧ p < w.heap.size := ⟨h.2.lt, blk_lt h.1⟩
  obtain ⟨fx, hfx⟩ : ∃ x, x = (findK keyE l (keyE e)).getD zeroE := ⟨_, rfl⟩
  obtain ⟨fb, hfb⟩ : ∃ b, b = hasK l (keyE e) := ⟨_, rfl⟩
  have hlk : ∀ u [Later w u], (Instr.lookup 61 (.map (some g)) (.agg #[.int .i64 e.owner, .int .u64 e.number]) true).run Try.prog u = .ok (.tuple #[fx.v, .bool fb]) u := fun u i => by
    have := run_lookL keyL Try.underlying61 zeroStub (h.later u).2 (keyE e)
    rw [hfx, hfb]
    unfold hasK
    cases hf : findK keyE l (keyE e) <;> (rw [hf] at this; exact this)
  obtain ⟨ib, hib⟩ : ∃ b, b = hasID l (idE e) := ⟨_, rfl⟩
  obtain ⟨y, hy⟩ : ∃ y, y = (findK idE l (idE e)).getD zeroE := ⟨_, rfl⟩
  obtain ⟨o, ho1, ho2⟩ := run_put_stub h.2 e
  have HB : ∀ u [Later w u], Calls Try.prog 19 #[.pointer (some ⟨p, 0, none⟩), .agg #[.int .i64 e.iDMachine, .int .i64 e.iDSerial]] u fun r w' => r = .returned (.tuple #[y.v, .bool ib]) ∧ Below u.heap.size u w' := fun u i => by
    refine (byID_any p g l (idE e) u (hT u) hid).mono ?_
    rintro r w' ⟨rfl, hb⟩
    exact ⟨by rw [hib, hy]; rfl, hb⟩
  obtain ⟨vb, hvb⟩ : ∃ b, b = validE e := ⟨_, rfl⟩
  have HV : ∀ u, Calls Try.prog 57 #[e.v] u fun r w' => r = .returned (.bool vb) ∧ Below u.heap.size u w' := fun u => by rw [hvb]; exact valid_any e u
  have hadd := hide (show putErr l e = if vb = false then 1 else if fb = false then 6 else if (ib && !decide (keyE y = keyE e)) then 5 else 0 by rw [hvb, hfb, hib, hy]; rfl)
  have hid' := hide hid
  clear hfx hfb hib hvb hid hy
  go_enter Try.func41, Try.ntmps41
  go_upto_region 1 with fail
  refine wp_name ?_
  intro w0 hw0
  obtain ⟨B0, l0⟩ := box1 hw0
  clear hw0
  cases vb
  · have He := hide (show putErr l e = 1 by rw [hadd.out]; rfl)
    have Ht := hide (show putT l e = l by unfold putT; rw [He.out]; rfl)
    go_wp2_with (go_at_call 57; refine (HV _).mono ?_; rintro r w1 ⟨rfl, hb1⟩; have l1 := later hb1)
    go_ret
    exact ⟨ret_int He.out.symm, by rw [Ht.out]; exact hT _, gro_of⟩
  go_upto_region 3 with (go_at_call 57; refine (HV _).mono ?_; rintro r w1 ⟨rfl, hb1⟩; have l1 := later hb1)
  refine wp_region_held_drew (S := fun w' => ∀ b [Later b w1], Later b w') (by kernel_rfl) (by intro b _; infer_instance) (fun hHeld => ?_)
  refine wpAnyH_take (i := 0) (oi := _) (v := ?_) rfl (by kernel_rfl) (by kernel_rfl) (by kernel_rfl) (fun _ _ _ h => h) (Or.inl ⟨by rfl, ?_⟩) (by assumption) ?_
  rotate_left 1
  · (intro wy hSw; (try dsimp only at hSw); go_simp; try with_reducible rfl)
  (try simp only [Act.put, List.setIfInBounds_toArray, List.set_cons_zero, List.set_cons_succ])
  refine wpAnyH_take (i := 1) (oi := _) (v := ?_) rfl (by kernel_rfl) (by kernel_rfl) (by kernel_rfl) (fun _ _ _ h => h) (Or.inl ⟨by rfl, ?_⟩) (by assumption) ?_
  rotate_left 1
  · (intro wy hSw; (try dsimp only at hSw); go_simp; try with_reducible rfl)
  (try simp only [Act.put, List.setIfInBounds_toArray, List.set_cons_zero, List.set_cons_succ])
  refine wpAnyH_take (i := 2) (oi := _) (v := ?_) rfl (by kernel_rfl) (by kernel_rfl) (by kernel_rfl) (fun _ _ _ h => h) (Or.inl ⟨by rfl, ?_⟩) (by assumption) ?_
  rotate_left 1
  · (intro wy hSw; (try dsimp only at hSw); go_simp; try with_reducible rfl)
  (try simp only [Act.put, List.setIfInBounds_toArray, List.set_cons_zero, List.set_cons_succ])
  refine wpAnyH_take (i := 3) (oi := _) (v := ?_) rfl (by kernel_rfl) (by kernel_rfl) (by kernel_rfl) (fun _ _ _ h => h) (Or.inl ⟨by rfl, ?_⟩) (by assumption) ?_
  rotate_left 1
  · (intro wy hSw; (try dsimp only at hSw); go_simp; try with_reducible rfl)
  (try simp only [Act.put, List.setIfInBounds_toArray, List.set_cons_zero, List.set_cons_succ])
  refine wpAnyH_take (i := 4) (oi := _) (v := ?_) rfl (by kernel_rfl) (by kernel_rfl) (by kernel_rfl) (fun _ _ _ h => h) (Or.inl ⟨by rfl, ?_⟩) (by assumption) ?_
  rotate_left 1
  · (intro wy hSw; (try dsimp only at hSw); go_simp; try with_reducible rfl)
  (try simp only [Act.put, List.setIfInBounds_toArray, List.set_cons_zero, List.set_cons_succ])
  refine wpAnyH_ready (rs := [5, 10]) (by kernel_rfl) (by simp) ?_
  refine AllReadyH.cons (o := _) rfl (fun K9 hK9 => ?_) (AllReadyH.cons (o := _) rfl (fun K9 hK9 => ?_) AllReadyH.nil)
  · go_simp
    refine (keyOf_any e _).mono ?_
    rintro r w2 ⟨rfl, hb2⟩
    have l2 := later hb2
    have hz2 := hb2.size
    refine hK9.out _ _ (by (intro b hbi; have hbz := (hbi : Later b w1).below.size; repeat (first | infer_instance | (refine later_setc (by first | (simp only; omega) | (simp; omega)) _ ?_)))) (fun hHeld => ?_)
    clear hK9 K9
    (try simp only [Act.put, List.setIfInBounds_toArray, List.set_cons_zero, List.set_cons_succ])
    refine wpAnyH_take (i := 6) (oi := _) (v := ?_) rfl (by kernel_rfl) (by kernel_rfl) (by kernel_rfl) (fun _ _ _ h => h) (Or.inl ⟨by rfl, ?_⟩) (by assumption) ?_
    rotate_left 1
    · (intro wy hSw; (try dsimp only at hSw); go_simp; try with_reducible rfl)
    (try simp only [Act.put, List.setIfInBounds_toArray, List.set_cons_zero, List.set_cons_succ])
    refine wpAnyH_take (i := 7) (oi := _) (v := ?_) rfl (by kernel_rfl) (by kernel_rfl) (by kernel_rfl) (fun _ _ _ h => h) (Or.inl ⟨by rfl, ?_⟩) (by assumption) ?_
    rotate_left 1
    · (intro wy hSw; (try dsimp only at hSw); go_simp; try with_reducible rfl)
    (try simp only [Act.put, List.setIfInBounds_toArray, List.set_cons_zero, List.set_cons_succ])
    refine wpAnyH_take (i := 8) (oi := _) (v := ?_) rfl (by kernel_rfl) (by kernel_rfl) (by kernel_rfl) (fun _ _ _ h => h) (Or.inl ⟨by rfl, ?_⟩) (by assumption) ?_
    rotate_left 1
    · (intro wy hSw; (try dsimp only at hSw); go_simp; try with_reducible rfl)
    (try simp only [Act.put, List.setIfInBounds_toArray, List.set_cons_zero, List.set_cons_succ])
    refine wpAnyH_take (i := 9) (oi := _) (v := ?_) rfl (by kernel_rfl) (by kernel_rfl) (by kernel_rfl) (fun _ _ _ h => h) (Or.inl ⟨by rfl, ?_⟩) (by assumption) ?_
    rotate_left 1
    · (intro wy hSw; (try dsimp only at hSw); go_simp; try with_reducible rfl)
    (try simp only [Act.put, List.setIfInBounds_toArray, List.set_cons_zero, List.set_cons_succ])
    refine wpAnyH_ready (rs := [10]) (by kernel_rfl) (by simp) ?_
    refine AllReadyH.cons (o := _) rfl (fun K9 hK9 => ?_) AllReadyH.nil
    go_simp
    refine hK9.out _ _ (by (intro b hbi; have hbz := (hbi : Later b w1).below.size; repeat (first | infer_instance | (refine later_setc (by first | (simp only; omega) | (simp; omega)) _ ?_)))) (fun hHeld => ?_)
    clear hK9 K9
    (try simp only [Act.put, List.setIfInBounds_toArray, List.set_cons_zero, List.set_cons_succ])
    refine wpAnyH_ready (rs := [11]) (by kernel_rfl) (by simp) ?_
    refine AllReadyH.cons (o := _) rfl (fun K9 hK9 => ?_) AllReadyH.nil
    go_simp
    refine hK9.out _ _ (by (intro b hbi; have hbz := (hbi : Later b w1).below.size; repeat (first | infer_instance | (refine later_setc (by first | (simp only; omega) | (simp; omega)) _ ?_)))) (fun hHeld => ?_)
    clear hK9 K9
    (try simp only [Act.put, List.setIfInBounds_toArray, List.set_cons_zero, List.set_cons_succ])
    refine wpAnyH_take (i := 12) (oi := _) (v := ?_) rfl (by kernel_rfl) (by kernel_rfl) (by kernel_rfl) (fun _ _ _ h => h) (Or.inl ⟨by rfl, ?_⟩) (by assumption) ?_
    rotate_left 1
    · (intro wy hSw; (try dsimp only at hSw); go_simp; try with_reducible rfl)
    (try simp only [Act.put, List.setIfInBounds_toArray, List.set_cons_zero, List.set_cons_succ])
    refine wpAnyH_done (by kernel_rfl) ?_ _
    cases fb
    · have He := hide (show putErr l e = 6 by rw [hadd.out]; rfl)
      have Ht := hide (show putT l e = l by unfold putT; rw [He.out]; rfl)
      go_upto_region 4 with fail
      go_wp2_with fail
      go_ret
      exact ⟨ret_int He.out.symm, by rw [Ht.out]; exact hT _, gro_of⟩
    go_upto_region 4 with fail
    go_upto_region 6 with fail
    refine wp_name ?_
    intro w4 hw4
    have l4 := later_name' hw4 (inferInstance : Later w1 _)
    clear hw4
    go_upto_region 7 with (go_at_call 19; refine (HB _).mono ?_; rintro r w5 ⟨rfl, hb5⟩; have l5 := later hb5)
    refine wp_name ?_
    intro w6 hw6
    obtain ⟨B7, l6⟩ := box1 hw6
    clear hw6
    cases ib
    · have He := hide (show putErr l e = 0 by rw [hadd.out]; rfl)
      have Ht := hide (show putT l e = putK keyE l e by unfold putT; rw [He.out]; rfl)
      (refine wp_region_after (by kernel_rfl) (by kernel_rfl) ?_
       repeat (any_goals (first | go_big_quiet_skip | (go_big_quiet_want; go_big_quiet_op; first | go_big_quiet_on | go_big_quiet_call (fail)) | quiet_step (fail) | (refine wpQuiet_step (fun K hK => ?_); go_simp; split <;> (refine hK _ ?_; clear hK K))))
       all_goals (refine wpQuiet_nil ?_; intro _ hw'; obtain ⟨u', hw''⟩ := hw'; subst hw''; obtain ⟨wd, hbd⟩ := u'; simp only [After.val_mk]))
      have ld := later hbd
      clear hbd
      go_upto_region 9 with fail
      refine wp_name ?_
      intro w9 hw9
      have l9 := later_name' hw9 (inferInstance : Later w6 _)
      clear hw9
      have gp := Gro.cell (g := g) (b := w) (a := ⟨p, 0, none⟩) hpg (hp w)
      have gB := boxed_gro B0 (g := g) (by omega)
      go_region_held3 (fun w' => ∀ b [Gro g b w9], Gro g b w') ((intro b _; infer_instance))
        ((first | (go_at_call 58; refine (keyOf_any e _).mono ?_; rintro r w7 ⟨rfl, hb7⟩; have l7 := later hb7; have g7 := gro_below (g := g) hb7)))
      all_goals go_wp2_with fail
      go_ret
      exact ⟨ret_int He.out.symm, ⟨(putAt_heap hpg).trans (hT _).1, by rw [Ht.out]; exact ho2 _⟩, gro_of⟩
    · cases hkq : keq y.owner y.number e.owner e.number
      · have He := hide (show putErr l e = 5 by rw [hadd.out]; simp only [← keq_iff, hkq]; rfl)
        have Ht := hide (show putT l e = l by unfold putT; rw [He.out]; rfl)
        (refine wp_region_after (by kernel_rfl) (by kernel_rfl) ?_
         repeat (any_goals (first | go_big_quiet_skip | (go_big_quiet_want; go_big_quiet_op; first | go_big_quiet_on | go_big_quiet_call ((first | (go_at_call 58; first | exact Calls.after (keyOf_any e _) | exact Calls.after (keyOf_any y _))))) | quiet_step ((first | (go_at_call 58; first | exact Calls.after (keyOf_any e _) | exact Calls.after (keyOf_any y _)))) | (refine wpQuiet_step (fun K hK => ?_); go_simp; split <;> (refine hK _ ?_; clear hK K))))
         all_goals (refine wpQuiet_nil ?_; intro _ hw'; obtain ⟨u', hw''⟩ := hw'; subst hw''; obtain ⟨wd, hbd⟩ := u'; simp only [After.val_mk]))
        have ld := later hbd
        go_wp2_with fail
        go_ret
        exact ⟨ret_int He.out.symm, by rw [Ht.out]; exact hT _, gro_of⟩
      · have He := hide (show putErr l e = 0 by rw [hadd.out]; simp only [← keq_iff, hkq]; rfl)
        have Ht := hide (show putT l e = putK keyE l e by unfold putT; rw [He.out]; rfl)
        (refine wp_region_after (by kernel_rfl) (by kernel_rfl) ?_
         repeat (any_goals (first | go_big_quiet_skip | (go_big_quiet_want; go_big_quiet_op; first | go_big_quiet_on | go_big_quiet_call ((first | (go_at_call 58; first | exact Calls.after (keyOf_any e _) | exact Calls.after (keyOf_any y _))))) | quiet_step ((first | (go_at_call 58; first | exact Calls.after (keyOf_any e _) | exact Calls.after (keyOf_any y _)))) | (refine wpQuiet_step (fun K hK => ?_); go_simp; split <;> (refine hK _ ?_; clear hK K))))
         all_goals (refine wpQuiet_nil ?_; intro _ hw'; obtain ⟨u', hw''⟩ := hw'; subst hw''; obtain ⟨wd, hbd⟩ := u'; simp only [After.val_mk]))
        have ld := later hbd
        clear hbd
        go_upto_region 9 with fail
        refine wp_name ?_
        intro w9 hw9
        have l9 := later_name' hw9 (inferInstance : Later w6 _)
        clear hw9
        have gp := Gro.cell (g := g) (b := w) (a := ⟨p, 0, none⟩) hpg (hp w)
        have gB := boxed_gro B0 (g := g) (by omega)
        go_region_held3 (fun w' => ∀ b [Gro g b w9], Gro g b w') ((intro b _; infer_instance))
          ((first | (go_at_call 58; refine (keyOf_any e _).mono ?_; rintro r w7 ⟨rfl, hb7⟩; have l7 := later hb7; have g7 := gro_below (g := g) hb7)))
        all_goals go_wp2_with fail
        go_ret
        exact ⟨ret_int He.out.symm, ⟨(putAt_heap hpg).trans (hT _).1, by rw [Ht.out]; exact ho2 _⟩, gro_of⟩
  · go_simp
    refine hK9.out _ _ (by (intro b hbi; have hbz := (hbi : Later b w1).below.size; repeat (first | infer_instance | (refine later_setc (by first | (simp only; omega) | (simp; omega)) _ ?_)))) (fun hHeld => ?_)
    clear hK9 K9
    (try simp only [Act.put, List.setIfInBounds_toArray, List.set_cons_zero, List.set_cons_succ])
    refine wpAnyH_ready (rs := [5]) (by kernel_rfl) (by simp) ?_
    refine AllReadyH.cons (o := _) rfl (fun K9 hK9 => ?_) AllReadyH.nil
    go_simp
    refine (keyOf_any e _).mono ?_
    rintro r w2 ⟨rfl, hb2⟩
    have l2 := later hb2
    have hz2 := hb2.size
    have q5 := blk_below (heap_alloc_drew _ _) hb2
    have q6 := fun i => blk_cell q5 i
    have q7 := fun i => blk_free q5 i
    clear q5
    refine hK9.out _ _ (by (intro b hbi; have hbz := (hbi : Later b w1).below.size; repeat (first | infer_instance | (refine later_setc (by first | (simp only; omega) | (simp; omega)) _ ?_)))) (fun hHeld => ?_)
    clear hK9 K9
    (try simp only [Act.put, List.setIfInBounds_toArray, List.set_cons_zero, List.set_cons_succ])
    refine wpAnyH_take (i := 6) (oi := _) (v := ?_) rfl (by kernel_rfl) (by kernel_rfl) (by kernel_rfl) (fun _ _ _ h => h) (Or.inl ⟨by rfl, ?_⟩) (by assumption) ?_
    rotate_left 1
    · (intro wy hSw; (try dsimp only at hSw); go_simp; try with_reducible rfl)
    (try simp only [Act.put, List.setIfInBounds_toArray, List.set_cons_zero, List.set_cons_succ])
    refine wpAnyH_take (i := 7) (oi := _) (v := ?_) rfl (by kernel_rfl) (by kernel_rfl) (by kernel_rfl) (fun _ _ _ h => h) (Or.inl ⟨by rfl, ?_⟩) (by assumption) ?_
    rotate_left 1
    · (intro wy hSw; (try dsimp only at hSw); go_simp; try with_reducible rfl)
    (try simp only [Act.put, List.setIfInBounds_toArray, List.set_cons_zero, List.set_cons_succ])
    refine wpAnyH_take (i := 8) (oi := _) (v := ?_) rfl (by kernel_rfl) (by kernel_rfl) (by kernel_rfl) (fun _ _ _ h => h) (Or.inl ⟨by rfl, ?_⟩) (by assumption) ?_
    rotate_left 1
    · (intro wy hSw; (try dsimp only at hSw); go_simp; try with_reducible rfl)
    (try simp only [Act.put, List.setIfInBounds_toArray, List.set_cons_zero, List.set_cons_succ])
    refine wpAnyH_take (i := 9) (oi := _) (v := ?_) rfl (by kernel_rfl) (by kernel_rfl) (by kernel_rfl) (fun _ _ _ h => h) (Or.inl ⟨by rfl, ?_⟩) (by assumption) ?_
    rotate_left 1
    · (intro wy hSw; (try dsimp only at hSw); go_simp; try with_reducible rfl)
    (try simp only [Act.put, List.setIfInBounds_toArray, List.set_cons_zero, List.set_cons_succ])
    refine wpAnyH_ready (rs := [11]) (by kernel_rfl) (by simp) ?_
    refine AllReadyH.cons (o := _) rfl (fun K9 hK9 => ?_) AllReadyH.nil
    go_simp
    refine hK9.out _ _ (by (intro b hbi; have hbz := (hbi : Later b w1).below.size; repeat (first | infer_instance | (refine later_setc (by first | (simp only; omega) | (simp; omega)) _ ?_)))) (fun hHeld => ?_)
    clear hK9 K9
    (try simp only [Act.put, List.setIfInBounds_toArray, List.set_cons_zero, List.set_cons_succ])
    refine wpAnyH_take (i := 12) (oi := _) (v := ?_) rfl (by kernel_rfl) (by kernel_rfl) (by kernel_rfl) (fun _ _ _ h => h) (Or.inl ⟨by rfl, ?_⟩) (by assumption) ?_
    rotate_left 1
    · (intro wy hSw; (try dsimp only at hSw); go_simp; try with_reducible rfl)
    (try simp only [Act.put, List.setIfInBounds_toArray, List.set_cons_zero, List.set_cons_succ])
    refine wpAnyH_done (by kernel_rfl) ?_ _
    cases fb
    · have He := hide (show putErr l e = 6 by rw [hadd.out]; rfl)
      have Ht := hide (show putT l e = l by unfold putT; rw [He.out]; rfl)
      go_upto_region 4 with fail
      go_wp2_with fail
      go_ret
      exact ⟨ret_int He.out.symm, by rw [Ht.out]; exact hT _, gro_of⟩
    go_upto_region 4 with fail
    go_upto_region 6 with fail
    refine wp_name ?_
    intro w4 hw4
    have l4 := later_name' hw4 (inferInstance : Later w1 _)
    clear hw4
    go_upto_region 7 with (go_at_call 19; refine (HB _).mono ?_; rintro r w5 ⟨rfl, hb5⟩; have l5 := later hb5)
    refine wp_name ?_
    intro w6 hw6
    obtain ⟨B7, l6⟩ := box1 hw6
    clear hw6
    cases ib
    · have He := hide (show putErr l e = 0 by rw [hadd.out]; rfl)
      have Ht := hide (show putT l e = putK keyE l e by unfold putT; rw [He.out]; rfl)
      (refine wp_region_after (by kernel_rfl) (by kernel_rfl) ?_
       repeat (any_goals (first | go_big_quiet_skip | (go_big_quiet_want; go_big_quiet_op; first | go_big_quiet_on | go_big_quiet_call (fail)) | quiet_step (fail) | (refine wpQuiet_step (fun K hK => ?_); go_simp; split <;> (refine hK _ ?_; clear hK K))))
       all_goals (refine wpQuiet_nil ?_; intro _ hw'; obtain ⟨u', hw''⟩ := hw'; subst hw''; obtain ⟨wd, hbd⟩ := u'; simp only [After.val_mk]))
      have ld := later hbd
      clear hbd
      go_upto_region 9 with fail
      refine wp_name ?_
      intro w9 hw9
      have l9 := later_name' hw9 (inferInstance : Later w6 _)
      clear hw9
      have gp := Gro.cell (g := g) (b := w) (a := ⟨p, 0, none⟩) hpg (hp w)
      have gB := boxed_gro B0 (g := g) (by omega)
      go_region_held3 (fun w' => ∀ b [Gro g b w9], Gro g b w') ((intro b _; infer_instance))
        ((first | (go_at_call 58; refine (keyOf_any e _).mono ?_; rintro r w7 ⟨rfl, hb7⟩; have l7 := later hb7; have g7 := gro_below (g := g) hb7)))
      all_goals go_wp2_with fail
      go_ret
      exact ⟨ret_int He.out.symm, ⟨(putAt_heap hpg).trans (hT _).1, by rw [Ht.out]; exact ho2 _⟩, gro_of⟩
    · cases hkq : keq y.owner y.number e.owner e.number
      · have He := hide (show putErr l e = 5 by rw [hadd.out]; simp only [← keq_iff, hkq]; rfl)
        have Ht := hide (show putT l e = l by unfold putT; rw [He.out]; rfl)
        (refine wp_region_after (by kernel_rfl) (by kernel_rfl) ?_
         repeat (any_goals (first | go_big_quiet_skip | (go_big_quiet_want; go_big_quiet_op; first | go_big_quiet_on | go_big_quiet_call ((first | (go_at_call 58; first | exact Calls.after (keyOf_any e _) | exact Calls.after (keyOf_any y _))))) | quiet_step ((first | (go_at_call 58; first | exact Calls.after (keyOf_any e _) | exact Calls.after (keyOf_any y _)))) | (refine wpQuiet_step (fun K hK => ?_); go_simp; split <;> (refine hK _ ?_; clear hK K))))
         all_goals (refine wpQuiet_nil ?_; intro _ hw'; obtain ⟨u', hw''⟩ := hw'; subst hw''; obtain ⟨wd, hbd⟩ := u'; simp only [After.val_mk]))
        have ld := later hbd
        go_wp2_with fail
        go_ret
        exact ⟨ret_int He.out.symm, by rw [Ht.out]; exact hT _, gro_of⟩
      · have He := hide (show putErr l e = 0 by rw [hadd.out]; simp only [← keq_iff, hkq]; rfl)
        have Ht := hide (show putT l e = putK keyE l e by unfold putT; rw [He.out]; rfl)
        (refine wp_region_after (by kernel_rfl) (by kernel_rfl) ?_
         repeat (any_goals (first | go_big_quiet_skip | (go_big_quiet_want; go_big_quiet_op; first | go_big_quiet_on | go_big_quiet_call ((first | (go_at_call 58; first | exact Calls.after (keyOf_any e _) | exact Calls.after (keyOf_any y _))))) | quiet_step ((first | (go_at_call 58; first | exact Calls.after (keyOf_any e _) | exact Calls.after (keyOf_any y _)))) | (refine wpQuiet_step (fun K hK => ?_); go_simp; split <;> (refine hK _ ?_; clear hK K))))
         all_goals (refine wpQuiet_nil ?_; intro _ hw'; obtain ⟨u', hw''⟩ := hw'; subst hw''; obtain ⟨wd, hbd⟩ := u'; simp only [After.val_mk]))
        have ld := later hbd
        clear hbd
        go_upto_region 9 with fail
        refine wp_name ?_
        intro w9 hw9
        have l9 := later_name' hw9 (inferInstance : Later w6 _)
        clear hw9
        have gp := Gro.cell (g := g) (b := w) (a := ⟨p, 0, none⟩) hpg (hp w)
        have gB := boxed_gro B0 (g := g) (by omega)
        go_region_held3 (fun w' => ∀ b [Gro g b w9], Gro g b w') ((intro b _; infer_instance))
          ((first | (go_at_call 58; refine (keyOf_any e _).mono ?_; rintro r w7 ⟨rfl, hb7⟩; have l7 := later hb7; have g7 := gro_below (g := g) hb7)))
        all_goals go_wp2_with fail
        go_ret
        exact ⟨ret_int He.out.symm, ⟨(putAt_heap hpg).trans (hT _).1, by rw [Ht.out]; exact ho2 _⟩, gro_of⟩
end Go.Proofs.Ytgddapgdeaeggaa
