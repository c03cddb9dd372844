/-
  Contracts of the functions of this seat that each theorem names: what a call returns, and that it writes nothing that was there before. The conditions stand in each theorem.
-/
import Derived.Test.YtgddapgdeaeggaaC23Plain
namespace Go.Proofs.Ytgddapgdeaeggaa
open Go.RowKit
set_option maxHeartbeats 800000 in
theorem run_eql_StubE (x y : StubE) (w : World) : (binOp .eql 37 x.v y.v).run Try.prog w = .ok (.bool (StubE.beq x y)) w := by
  have ht : Try.prog.underlying 37 = some (.struct (Try.prog.fieldsOf 37)) := by kernel_rfl
  have hp : Try.prog.stoodInHeld 37 = false := by kernel_rfl
  have hu := Try.underlying37
  rw [run_eql_struct, run_equalIn_struct w 9999 37 _ _ ht hp]
  obtain ⟨fs, hfs⟩ : ∃ fs, Try.prog.fieldsOf 37 = fs := ⟨_, rfl⟩
  rw [hfs] at ht ⊢
  rw [hu] at ht
  have ht2 := TypeDesc.struct.inj (Option.some.inj ht)
  subst ht2
  simp only [Op.eqFields, ne_eq]
  simp [go_sem, StubE.beq]
  clear hfs hu ht hp
  by_cases h0 : x.owner = y.owner
  rotate_left
  · rw [if_neg h0]
    simp [beq_eq_false_iff_ne.2 h0]
  rw [if_pos h0]
  have e0 := beq_iff_eq.2 h0
  by_cases h1 : x.number = y.number
  rotate_left
  · rw [if_neg h1]
    simp [beq_eq_false_iff_ne.2 h1]
  rw [if_pos h1]
  have e1 := beq_iff_eq.2 h1
  by_cases h2 : x.iDMachine = y.iDMachine
  rotate_left
  · rw [if_neg h2]
    simp [beq_eq_false_iff_ne.2 h2]
  rw [if_pos h2]
  have e2 := beq_iff_eq.2 h2
  by_cases h3 : x.iDSerial = y.iDSerial
  rotate_left
  · rw [if_neg h3]
    simp [beq_eq_false_iff_ne.2 h3]
  rw [if_pos h3]
  have e3 := beq_iff_eq.2 h3
  by_cases h4 : x.clas = y.clas
  rotate_left
  · rw [if_neg h4]
    simp [beq_eq_false_iff_ne.2 h4]
  rw [if_pos h4]
  have e4 := beq_iff_eq.2 h4
  by_cases h5 : x.lastUse = y.lastUse
  rotate_left
  · rw [if_neg h5]
    simp [beq_eq_false_iff_ne.2 h5]
  rw [if_pos h5]
  have e5 := beq_iff_eq.2 h5
  by_cases h6 : x.distance = y.distance
  rotate_left
  · rw [if_neg h6]
    simp [beq_eq_false_iff_ne.2 h6]
  rw [if_pos h6]
  have e6 := beq_iff_eq.2 h6
  by_cases h7 : x.touched = y.touched
  rotate_left
  · rw [if_neg h7]
    simp [beq_eq_false_iff_ne.2 h7]
  rw [if_pos h7]
  have e7 := beq_iff_eq.2 h7
  by_cases h8 : x.weak = y.weak
  rotate_left
  · rw [if_neg h8]
    simp [beq_eq_false_iff_ne.2 h8]
  rw [if_pos h8]
  have e8 := beq_iff_eq.2 h8
  by_cases h9 : x.dead = y.dead
  rotate_left
  · rw [if_neg h9]
    simp [beq_eq_false_iff_ne.2 h9]
  rw [if_pos h9]
  have e9 := beq_iff_eq.2 h9
  by_cases h10 : x.lockMachine = y.lockMachine
  rotate_left
  · rw [if_neg h10]
    simp [beq_eq_false_iff_ne.2 h10]
  rw [if_pos h10]
  have e10 := beq_iff_eq.2 h10
  by_cases h11 : x.lockSerial = y.lockSerial
  rotate_left
  · rw [if_neg h11]
    simp [beq_eq_false_iff_ne.2 h11]
  rw [if_pos h11]
  have e11 := beq_iff_eq.2 h11
  simp only [e0, e1, e2, e3, e4, e5, e6, e7, e8, e9, e10, e11]
  rfl
set_option maxHeartbeats 800000 in
theorem run_neq_StubE (x y : StubE) (w : World) : (binOp .neq 37 x.v y.v).run Try.prog w = .ok (.bool (!StubE.beq x y)) w := by
  have ht : Try.prog.underlying 37 = some (.struct (Try.prog.fieldsOf 37)) := by kernel_rfl
  have hp : Try.prog.stoodInHeld 37 = false := by kernel_rfl
  have hu := Try.underlying37
  rw [run_neq_struct, run_equalIn_struct w 9999 37 _ _ ht hp]
  obtain ⟨fs, hfs⟩ : ∃ fs, Try.prog.fieldsOf 37 = fs := ⟨_, rfl⟩
  rw [hfs] at ht ⊢
  rw [hu] at ht
  have ht2 := TypeDesc.struct.inj (Option.some.inj ht)
  subst ht2
  simp only [Op.eqFields, ne_eq]
  simp [go_sem, StubE.beq]
  clear hfs hu ht hp
  by_cases h0 : x.owner = y.owner
  rotate_left
  · rw [if_neg h0]
    simp [beq_eq_false_iff_ne.2 h0]
  rw [if_pos h0]
  have e0 := beq_iff_eq.2 h0
  by_cases h1 : x.number = y.number
  rotate_left
  · rw [if_neg h1]
    simp [beq_eq_false_iff_ne.2 h1]
  rw [if_pos h1]
  have e1 := beq_iff_eq.2 h1
  by_cases h2 : x.iDMachine = y.iDMachine
  rotate_left
  · rw [if_neg h2]
    simp [beq_eq_false_iff_ne.2 h2]
  rw [if_pos h2]
  have e2 := beq_iff_eq.2 h2
  by_cases h3 : x.iDSerial = y.iDSerial
  rotate_left
  · rw [if_neg h3]
    simp [beq_eq_false_iff_ne.2 h3]
  rw [if_pos h3]
  have e3 := beq_iff_eq.2 h3
  by_cases h4 : x.clas = y.clas
  rotate_left
  · rw [if_neg h4]
    simp [beq_eq_false_iff_ne.2 h4]
  rw [if_pos h4]
  have e4 := beq_iff_eq.2 h4
  by_cases h5 : x.lastUse = y.lastUse
  rotate_left
  · rw [if_neg h5]
    simp [beq_eq_false_iff_ne.2 h5]
  rw [if_pos h5]
  have e5 := beq_iff_eq.2 h5
  by_cases h6 : x.distance = y.distance
  rotate_left
  · rw [if_neg h6]
    simp [beq_eq_false_iff_ne.2 h6]
  rw [if_pos h6]
  have e6 := beq_iff_eq.2 h6
  by_cases h7 : x.touched = y.touched
  rotate_left
  · rw [if_neg h7]
    simp [beq_eq_false_iff_ne.2 h7]
  rw [if_pos h7]
  have e7 := beq_iff_eq.2 h7
  by_cases h8 : x.weak = y.weak
  rotate_left
  · rw [if_neg h8]
    simp [beq_eq_false_iff_ne.2 h8]
  rw [if_pos h8]
  have e8 := beq_iff_eq.2 h8
  by_cases h9 : x.dead = y.dead
  rotate_left
  · rw [if_neg h9]
    simp [beq_eq_false_iff_ne.2 h9]
  rw [if_pos h9]
  have e9 := beq_iff_eq.2 h9
  by_cases h10 : x.lockMachine = y.lockMachine
  rotate_left
  · rw [if_neg h10]
    simp [beq_eq_false_iff_ne.2 h10]
  rw [if_pos h10]
  have e10 := beq_iff_eq.2 h10
  by_cases h11 : x.lockSerial = y.lockSerial
  rotate_left
  · rw [if_neg h11]
    simp [beq_eq_false_iff_ne.2 h11]
  rw [if_pos h11]
  have e11 := beq_iff_eq.2 h11
  simp only [e0, e1, e2, e3, e4, e5, e6, e7, e8, e9, e10, e11]
  rfl
set_option maxHeartbeats 800000 in
attribute [local go_sem ↓] run_neq_StubE in
theorem refSame_any (aA : Option Addr) (aC : Nat) (a : List StubE) (bA : Option Addr) (bC : Nat) (b : List StubE) (w : World) (ha : SlAt StubE.cells 12 w aA a) (hb : SlAt StubE.cells 12 w bA b) (hal : a.length ≤ 9223372036854775807) (_ : b.length ≤ 9223372036854775807) :
    Calls Try.prog 15 #[.slice aA a.length aC, .slice bA b.length bC] w fun r w' => ∃ q : Bool, r = .returned (.bool q) ∧ (q = true ↔ a = b) ∧ Below w.heap.size w w' := by
  by_cases hl : a.length = b.length
  rotate_left
  · have hl' : ¬ (a.length : Int) = (b.length : Int) := by omega
    have Hl := hide hl
    clear hl
    go_enter Try.func15, Try.ntmps15
    go_wp2
    go_ret
    exact ⟨false, rfl, ⟨(fun h => by cases h), fun h => absurd (congrArg List.length h) Hl.out⟩, Below.refl _ _⟩
  have Hl := hide hl
  have hl' : ((a.length : Int) != (b.length : Int)) = false := by simp [hl]
  clear hl
  have Ha := ha.later
  have Hb := hb.later
  go_enter Try.func15, Try.ntmps15
  go_wp2
  go_loopw [5] (fun i wr => ∃ k : Nat, k ≤ a.length ∧ i = .int .i64 k ∧ (∀ (j : Nat) (x y : StubE), j < k → a[j]? = some x → b[j]? = some y → x = y) ∧ Below w.heap.size w wr) (fun i _ => a.length - (intOf i).toNat)
  case atStart => exact ⟨0, by omega, rfl, fun j _ _ h => absurd h (by omega), Below.refl _ _⟩
  case round =>
    obtain ⟨k, hk, rfl, hall, hbw⟩ := hrel
    have lr := later hbw
    by_cases hlt : k < a.length
    · have hlt2 : k < b.length := by rw [← Hl.out]; exact hlt
      obtain ⟨g1, o1, x, rfl, hx, C1⟩ := StubE.get (Ha wr) hlt
      obtain ⟨g2, o2, y, rfl, hy, C2⟩ := StubE.get (Hb wr) hlt2
      have Hall := hide hall
      have Hx := hide hx
      have Hy := hide hy
      clear hall hx hy
      go_wp2
      (refine wp_region_after (by kernel_rfl) (by kernel_rfl) ?_
       repeat (any_goals (first | go_big_quiet_skip | (go_big_quiet_want; go_big_quiet_op; first | go_big_quiet_on | go_big_quiet_call (fail)) | quiet_step (fail) | (refine wpQuiet_step (fun K hK => ?_); go_simp; split <;> (refine hK _ ?_; clear hK K))))
       all_goals (refine wpQuiet_nil ?_; intro _ hw'; obtain ⟨u', hw''⟩ := hw'; subst hw''; obtain ⟨wd, hbd⟩ := u'; simp only [After.val_mk]))
      have ld := later hbd
      cases hxy : StubE.beq x y
      · go_wp2_with fail
        go_ret
        exact ⟨false, rfl, ⟨(fun h => by cases h), fun h => by
          have hx := Hx.out
          have hy := Hy.out
          rw [h, hy] at hx
          injection hx with hx
          rw [StubE.beq_iff.2 hx.symm] at hxy
          cases hxy⟩, hbw.trans (hbd.mono hbw.size)⟩
      · go_wp2_with fail
        go_roundw
        case rel => exact ⟨k + 1, by omega, by go_num, fun j x' y' hj hx' hy' => by
          rcases Nat.lt_or_ge j k with h | h
          · exact Hall.out j x' y' h hx' hy'
          · have : j = k := by omega
            subst this
            have hx := Hx.out
            have hy := Hy.out
            rw [hx] at hx'; injection hx' with hx'
            rw [hy] at hy'; injection hy' with hy'
            rw [← hx', ← hy']
            exact StubE.beq_iff.1 hxy, hbw.trans (hbd.mono hbw.size)⟩
        case measure => simp [intOf]; omega
    · have hk' : k = a.length := by omega
      subst hk'
      have Hall := hide hall
      clear hall
      go_wp2
      go_ret
      exact ⟨true, rfl, ⟨fun _ => eq_to Hl.out fun j x y hx hy => Hall.out j x y (List.getElem?_eq_some_iff.1 hx).1 hx hy, fun _ => rfl⟩, hbw⟩

set_option maxRecDepth 100000 in
set_option maxHeartbeats 8000000 in
theorem step_any (p g : Nat) (l : List StubE) (c : CallE) (w : World) (h : TabAt w p g l) (hi : Inv l) : Calls Try.prog 14 #[.pointer (some ⟨p, 0, none⟩), c.v] w (MutPost w p g (callErr l c) (callT l c)) := by
  have hT := h.later
  have HA : ∀ u [Later w u], Calls Try.prog 27 #[.pointer (some ⟨p, 0, none⟩), c.ent.v] u (MutPost u p g (addErr l c.ent) (addT l c.ent)) := fun u i => add_any p g l c.ent u (hT u) hi.ids
  have HP : ∀ u [Later w u], Calls Try.prog 41 #[.pointer (some ⟨p, 0, none⟩), c.ent.v] u (MutPost u p g (putErr l c.ent) (putT l c.ent)) := fun u i => put_any p g l c.ent u (hT u) hi.ids
  have HU : ∀ u [Later w u], Calls Try.prog 22 #[.pointer (some ⟨p, 0, none⟩), .int .i64 c.eOwner, .int .u64 c.eNumber, .int .i64 c.n] u (MutPost u p g (useErr c.n l (keyE c.ent)) (useT c.n l (keyE c.ent))) := fun u i => use_any p g l (keyE c.ent) c.n u (hT u)
  have HT : ∀ u [Later w u], Calls Try.prog 21 #[.pointer (some ⟨p, 0, none⟩), .int .i64 c.eOwner, .int .u64 c.eNumber] u (MutPost u p g (chErr l (keyE c.ent)) (chT touchE l (keyE c.ent))) := fun u i => touch_any p g l (keyE c.ent) u (hT u)
  have HR : ∀ u [Later w u], Calls Try.prog 28 #[.pointer (some ⟨p, 0, none⟩), .int .i64 c.eOwner, .int .u64 c.eNumber] u (MutPost u p g (chErr l (keyE c.ent)) (remK keyE l (keyE c.ent))) := fun u i => remove_any p g l (keyE c.ent) u (hT u)
  have Hi := hide hi
  clear hi
  by_cases k0 : c.kind = 0
  · have He := hide (show callErr l c = addErr l c.ent by unfold callErr; simp [*])
    have Ht := hide (show callT l c = addT l c.ent by unfold callT; simp [*])
    go_enter Try.func14, Try.ntmps14
    go_upto_region 1 with fail
    refine wp_name ?_
    intro w0 hw0
    obtain ⟨B0, l0⟩ := box1 hw0
    clear hw0
    go_wp2_with (go_at_call 27; refine (HA _).mono ?_; rintro r w1 ⟨rfl, h1, h2⟩)
    go_ret
    exact ⟨ret_int (He.out.symm), by rw [Ht.out]; exact h1, World.grownBy.trans (gro_of (g := g) (b := w) (w := w0)) h2⟩
  by_cases k1 : c.kind = 1
  · have He := hide (show callErr l c = putErr l c.ent by unfold callErr; simp [*])
    have Ht := hide (show callT l c = putT l c.ent by unfold callT; simp [*])
    go_enter Try.func14, Try.ntmps14
    go_upto_region 1 with fail
    refine wp_name ?_
    intro w0 hw0
    obtain ⟨B0, l0⟩ := box1 hw0
    clear hw0
    go_wp2_with (go_at_call 41; refine (HP _).mono ?_; rintro r w1 ⟨rfl, h1, h2⟩)
    go_ret
    exact ⟨ret_int (He.out.symm), by rw [Ht.out]; exact h1, World.grownBy.trans (gro_of (g := g) (b := w) (w := w0)) h2⟩
  by_cases k2 : c.kind = 2
  · have He := hide (show callErr l c = useErr c.n l (keyE c.ent) by unfold callErr; simp [*])
    have Ht := hide (show callT l c = useT c.n l (keyE c.ent) by unfold callT; simp [*])
    go_enter Try.func14, Try.ntmps14
    go_upto_region 1 with fail
    refine wp_name ?_
    intro w0 hw0
    obtain ⟨B0, l0⟩ := box1 hw0
    clear hw0
    go_wp2_with (go_at_call 22; refine (HU _).mono ?_; rintro r w1 ⟨rfl, h1, h2⟩)
    go_ret
    exact ⟨ret_int (He.out.symm), by rw [Ht.out]; exact h1, World.grownBy.trans (gro_of (g := g) (b := w) (w := w0)) h2⟩
  by_cases k3 : c.kind = 3
  · have He := hide (show callErr l c = chErr l (keyE c.ent) by unfold callErr; simp [*])
    have Ht := hide (show callT l c = chT touchE l (keyE c.ent) by unfold callT; simp [*])
    go_enter Try.func14, Try.ntmps14
    go_upto_region 1 with fail
    refine wp_name ?_
    intro w0 hw0
    obtain ⟨B0, l0⟩ := box1 hw0
    clear hw0
    go_wp2_with (go_at_call 21; refine (HT _).mono ?_; rintro r w1 ⟨rfl, h1, h2⟩)
    go_ret
    exact ⟨ret_int (He.out.symm), by rw [Ht.out]; exact h1, World.grownBy.trans (gro_of (g := g) (b := w) (w := w0)) h2⟩
  by_cases k4 : c.kind = 4
  · have He := hide (show callErr l c = chErr l (keyE c.ent) by unfold callErr; simp [*])
    have Ht := hide (show callT l c = remK keyE l (keyE c.ent) by unfold callT; simp [*])
    go_enter Try.func14, Try.ntmps14
    go_upto_region 1 with fail
    refine wp_name ?_
    intro w0 hw0
    obtain ⟨B0, l0⟩ := box1 hw0
    clear hw0
    go_wp2_with (go_at_call 28; refine (HR _).mono ?_; rintro r w1 ⟨rfl, h1, h2⟩)
    go_ret
    exact ⟨ret_int (He.out.symm), by rw [Ht.out]; exact h1, World.grownBy.trans (gro_of (g := g) (b := w) (w := w0)) h2⟩
  by_cases k5 : c.kind = 5
  · have He := hide (show callErr l c = 0 by unfold callErr; simp [*])
    have Ht := hide (show callT l c = l.map clearE by unfold callT; simp [*])
    go_enter Try.func14, Try.ntmps14
    go_upto_region 1 with fail
    refine wp_name ?_
    intro w0 hw0
    obtain ⟨B0, l0⟩ := box1 hw0
    clear hw0
    go_wp2_with (go_at_call 20; refine (clear_any p g l _ (hT _)).mono ?_; rintro r w1 ⟨rfl, h1, h2⟩)
    go_ret
    exact ⟨ret_int (He.out.symm), by rw [Ht.out]; exact h1, World.grownBy.trans (gro_of (g := g) (b := w) (w := w0)) h2⟩
  · have He := hide (show callErr l c = 0 by unfold callErr; simp [*])
    have Ht := hide (show callT l c = l by unfold callT; simp [*])
    go_enter Try.func14, Try.ntmps14
    go_upto_region 1 with fail
    refine wp_name ?_
    intro w0 hw0
    obtain ⟨B0, l0⟩ := box1 hw0
    clear hw0
    go_wp2_with fail
    go_ret
    exact ⟨ret_int He.out.symm, by rw [Ht.out]; exact hT _, gro_of⟩
set_option maxRecDepth 100000 in
set_option maxHeartbeats 4000000 in
theorem run_any (A : Option Addr) (C : Nat) (cs : List CallE) (w : World) (hs : SlAt CallE.cells 14 w A cs) (hl : cs.length ≤ 1000000) : Calls Try.prog 16 #[.slice A cs.length C] w fun r w' => ∃ p g, r = .returned (.pointer (some ⟨p, 0, none⟩)) ∧ w.heap.size ≤ p ∧ w.heap.size ≤ g ∧ TabAt w' p g (runT cs) ∧ Below w.heap.size w w' := by
  have HS : ∀ u [Later w u], SlAt CallE.cells 14 u A cs := fun u i => hs.below i.below
  have hl' : cs.length ≤ 9223372036854775807 := by omega
  go_enter Try.func16, Try.ntmps16
  go_upto_region 2 with (go_at_call 11; refine (new_any _).mono ?_; rintro r w1 ⟨p, g, rfl, hp, hg, hT0, hb1⟩)
  go_wp2_with fail
  go_loopw [4] (fun iv wr => ∃ k : Nat, k ≤ cs.length ∧ iv = .int .i64 k ∧ TabAt wr p g (runT (cs.take k)) ∧ Below w.heap.size w wr) (fun iv _ => cs.length - (intOf iv).toNat)
  case atStart => exact ⟨0, by omega, rfl, hT0, hb1⟩
  case round =>
    clear hT0 hb1
    obtain ⟨k, hk, rfl, hT, hbr⟩ := hrel
    have lr := later hbr
    have hzr := hbr.size
    by_cases hlt : k < cs.length
    · obtain ⟨b, off, c, rfl, hc, C1⟩ := CallE.get (HS wr) hlt
      obtain ⟨L, hL⟩ : ∃ L, L = runT (cs.take k) := ⟨_, rfl⟩
      rw [← hL] at hT
      have hiL : Inv L := by rw [hL]; exact inv_run _
      have Hn := hide (show runT (cs.take (k + 1)) = callT L c by rw [hL]; exact run_take hc)
      have hiL' := hide hiL
      have Hc := hide hc
      clear hL hc hiL
      go_wp2_with (go_at_call 14; refine (step_any p g L c _ (hT.later _) hiL'.out).mono ?_; rintro r w2 ⟨rfl, h1, h2⟩)
      go_roundw
      case rel => exact ⟨k + 1, by omega, by go_num, by rw [Hn.out]; exact h1, hbr.trans (grown_belowG h2 hg hzr)⟩
      case measure => simp [intOf]; omega
    · have hk' : k = cs.length := by omega
      subst hk'
      rw [List.take_length] at hT
      go_wp2_with fail
      go_ret
      exact ⟨p, g, rfl, hp, hg, hT, hbr⟩
end Go.Proofs.Ytgddapgdeaeggaa
