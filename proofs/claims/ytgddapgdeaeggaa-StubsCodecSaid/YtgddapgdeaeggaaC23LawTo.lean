/-
  Contracts of the functions of this seat that each theorem names: what a call returns, and that it writes nothing that was there before. The conditions stand in each theorem.
-/
import Derived.Test.YtgddapgdeaeggaaC23LawT
import Derived.Test.YtgddapgdeaeggaaClearLib
namespace Go.Proofs.Ytgddapgdeaeggaa
open Go.RowKit
theorem clear_keys (e : StubE) : keyE (clearE e) = keyE e := rfl
theorem neq_clear (y : StubE) (u : World) : (binOp .neq 37 (.agg #[.int .i64 y.owner, .int .u64 y.number, .int .i64 y.iDMachine, .int .i64 y.iDSerial, .int .i64 y.clas, .int .i64 y.lastUse, .int .i64 y.distance, .bool false, .bool y.weak, .bool y.dead, .int .i64 y.lockMachine, .int .i64 y.lockSerial]) (.agg #[.int .i64 y.owner, .int .u64 y.number, .int .i64 y.iDMachine, .int .i64 y.iDSerial, .int .i64 y.clas, .int .i64 y.lastUse, .int .i64 y.distance, .bool false, .bool y.weak, .bool y.dead, .int .i64 y.lockMachine, .int .i64 y.lockSerial])).run Try.prog u = .ok (.bool false) u :=
  (run_neq_StubE (clearE y) (clearE y) u).trans (by rw [StubE.beq_iff.2 rfl]; rfl)
theorem sameTrue_any (A : Option Addr) (cA : Nat) (B : Option Addr) (cB : Nat) (l : List StubE) (w : World) (ha : SlAt StubE.cells 12 w A l) (hb : SlAt StubE.cells 12 w B l) (hl : l.length ≤ 9223372036854775807) : Calls Try.prog 15 #[.slice A l.length cA, .slice B l.length cB] w fun r w' => r = .returned (.bool true) ∧ Below w.heap.size w w' := by
  refine (refSame_any A cA l B cB l w ha hb hl hl).mono ?_
  rintro r w' ⟨q, rfl, hq, hbw⟩
  rw [hq.2 rfl]
  exact ⟨rfl, hbw⟩
theorem own_notG {base g : Nat} {w : World} {v : Value} {l : List StubE} (h : Own StubE.cells 12 37 base w v l) (hg : g < base) : v.ownBlock = none ∨ v.ownBlock ≠ some g := by
  cases hv : v.ownBlock with
  | none => exact .inl rfl
  | some b => exact .inr fun e => by injection e with e; have := (World.ownsRow.lt h b hv).1; omega
theorem TabAt.of_heap {w w' : World} {p g : Nat} {l : List StubE} (h : TabAt w p g l) (hp : w'.heap[p]? = w.heap[p]?) (hg : w'.heap[g]? = w.heap[g]?) : TabAt w' p g l := ⟨hp.trans h.1, h.2.of_heap hg⟩
set_option maxRecDepth 100000 in
set_option maxHeartbeats 8000000 in
theorem touches_any (A : Option Addr) (C : Nat) (cs : List CallE) (n seq : Int) (w : World) (hs : SlAt CallE.cells 14 w A cs) (hl : cs.length ≤ 9223372036854775807) (hn0 : 0 ≤ n) (hn1 : n ≤ 255) : Calls Try.prog 6 #[.slice A cs.length C, .int .u8 n, .int .i64 seq] w fun r w' => r = .returned (.bool true) ∧ Below w.heap.size w w' := by
  have HS : ∀ u [Later w u], SlAt CallE.cells 14 u A cs := fun u i => hs.below i.below
  go_enter Try.func6, Try.ntmps6
  by_cases hlen : (30 : Int) < (cs.length : Int)
  · go_wp2_with (go_at_call 10; refine (awake_any _).mono ?_; rintro r w1 ⟨rfl, hb1⟩; have l1 := later hb1)
    go_ret
    exact ⟨rfl, below_of⟩
  have hcl : cs.length ≤ 30 := by omega
  go_wp2_with (go_at_call 10; refine (awake_any _).mono ?_; rintro r w1 ⟨rfl, hb1⟩; have l1 := later hb1)
  go_wp2_with (go_at_call 16; refine (run_any A C cs _ (HS _) (by omega)).mono ?_; rintro r w2 ⟨p, g, rfl, hp, hg, hT0, hb2⟩; have l2 := later hb2)
  obtain ⟨L, hL⟩ : ∃ L, L = runT cs := ⟨_, rfl⟩
  have hLi : Inv L := by rw [hL]; exact inv_run cs
  have hLl : L.length ≤ 30 := by have := run_len cs; rw [hL]; omega
  rw [← hL] at hT0
  clear hL
  have hgl := hT0.2.lt
  have hpl := blk_lt hT0.1
  go_wp2_with (go_at_call 12; refine (list_any p g L _ (hT0.later _) (by omega)).mono ?_; rintro r w3 ⟨q, B, D, hq, rfl, ho3, hb3⟩)
  have hT3 := hT0.below hb3
  go_wp2_with (go_at_call 20; refine (clear_any p g L _ hT3).mono ?_; rintro r w4 ⟨rfl, hT4, hg4⟩)
  have ho4 := ho3.kept hg4 (own_notG ho3 hgl)
  have hz4 : w2.heap.size ≤ w4.heap.size := Nat.le_trans hb3.size hg4.size
  have hLc : (L.map clearE).length ≤ 30 := by rw [List.length_map]; exact hLl
  go_upto_region 11 with (go_at_call 12; refine (list_any p g (L.map clearE) _ hT4 (by omega)).mono ?_; rintro r w5 ⟨q', B', D', hq', rfl, ho5, hb5⟩)
  have hqe : q' = q.map clearE := sortedS_unique hq'.out.2 (sortedS_map clear_keys hq.out.2) (hq'.out.1.trans (hq.out.1.map clearE).symm)
  have Hqe := hide hqe
  have hlne : ((q'.length : Int) != (q.length : Int)) = false := by rw [hqe]; simp
  have hlq := hide (show q'.length = q.length by rw [hqe]; simp)
  have hql : q.length ≤ 30 := by rw [hq.out.1.length_eq]; exact hLl
  have hql' : q'.length ≤ 30 := by rw [hqe]; simpa using hql
  have hT5 := hT4.below hb5
  have hz5 := hb5.size
  have l5 := later hb5
  have hq5 := ((ho4.below hb5).at_ StubE.enc).2.2
  have hq5' := (ho5.at_ StubE.enc).2.2
  have HQ : ∀ u [Later w5 u], SlAt StubE.cells 12 u B q := fun u i => hq5.below i.below
  have HQ' : ∀ u [Later w5 u], SlAt StubE.cells 12 u B' q' := fun u i => hq5'.below i.below
  have hb2' : Below w.heap.size w w2 := below_of
  have hgw : w.heap.size ≤ g := Nat.le_trans (show Below w.heap.size w w1 from below_of).size hg
  have hb3' : Below w.heap.size w w3 := hb2'.trans (hb3.mono hb2'.size)
  have hb4' : Below w.heap.size w w4 := hb3'.trans (grown_belowG hg4 hgw hb3'.size)
  have hb05 : Below w.heap.size w w5 := hb4'.trans (hb5.mono hb4'.size)
  have hneq := neq_clear
  have hLi' := hide hLi
  clear hqe hq5 hq5' ho3 ho4 hT3 hT4 hg4 hb3 hb5 hT0 hLi hb2' hb3' hb4'
  go_wp2_with fail
  go_loopw [10, 11] (fun iv _ wr => ∃ k : Nat, k ≤ q.length ∧ iv = .int .i64 k ∧ Below w5.heap.size w5 wr) (fun iv _ _ => q.length - (intOf iv).toNat)
  case atStart => exact ⟨0, by omega, rfl, Below.refl _ _⟩
  case round =>
    obtain ⟨i, hi, rfl, hbr⟩ := hrel
    have lr := later hbr
    by_cases hlt : i < q.length
    · obtain ⟨b1, o1, y, rfl, hy, C1⟩ := StubE.get (HQ wr) hlt
      have hlt' : i < q'.length := by rw [hlq.out]; exact hlt
      obtain ⟨b2, o2, z, rfl, hz, D1⟩ := StubE.get (HQ' wr) hlt'
      have hzy : z = clearE y := by
        rw [Hqe.out, List.getElem?_map, hy] at hz
        injection hz with hz; exact hz.symm
      subst hzy
      have D2 : ∀ (u : World) [Later wr u], u.cell? ⟨b2, o2 + i * 12, none⟩ = some (.int .i64 y.owner) ∧ u.cell? ⟨b2, o2 + i * 12 + 1, none⟩ = some (.int .u64 y.number) ∧ u.cell? ⟨b2, o2 + i * 12 + 2, none⟩ = some (.int .i64 y.iDMachine) ∧ u.cell? ⟨b2, o2 + i * 12 + 3, none⟩ = some (.int .i64 y.iDSerial) ∧ u.cell? ⟨b2, o2 + i * 12 + 4, none⟩ = some (.int .i64 y.clas) ∧ u.cell? ⟨b2, o2 + i * 12 + 5, none⟩ = some (.int .i64 y.lastUse) ∧ u.cell? ⟨b2, o2 + i * 12 + 6, none⟩ = some (.int .i64 y.distance) ∧ u.cell? ⟨b2, o2 + i * 12 + 7, none⟩ = some (.bool false) ∧ u.cell? ⟨b2, o2 + i * 12 + 8, none⟩ = some (.bool y.weak) ∧ u.cell? ⟨b2, o2 + i * 12 + 9, none⟩ = some (.bool y.dead) ∧ u.cell? ⟨b2, o2 + i * 12 + 10, none⟩ = some (.int .i64 y.lockMachine) ∧ u.cell? ⟨b2, o2 + i * 12 + 11, none⟩ = some (.int .i64 y.lockSerial) := D1
      clear hy hz D1
      go_upto_region 18 with fail
      refine wp_name ?_
      intro w6 hw6
      obtain ⟨BX, l6⟩ := box1 hw6
      clear hw6
      (refine wp_region_after (by kernel_rfl) (by kernel_rfl) ?_
       repeat (any_goals (first | go_big_quiet_skip | (go_big_quiet_want; go_big_quiet_op; first | go_big_quiet_on | go_big_quiet_call (fail)) | quiet_step (fail) | (refine wpQuiet_step (fun K hK => ?_); go_simp; split <;> (refine hK _ ?_; clear hK K))))
       all_goals (refine wpQuiet_nil ?_; intro _ hw'; obtain ⟨u', hw''⟩ := hw'; subst hw''; obtain ⟨wd, hbd⟩ := u'; simp only [After.val_mk]))
      have ld := later hbd
      go_wp2_with fail
      go_roundw
      case rel => exact ⟨i + 1, by omega, by go_num, below_of⟩
      case measure => simp [intOf]; omega
    · have hk' : i = q.length := by omega
      subst hk'
      by_cases hz0 : q'.length = 0
      · have hz0' : (q'.length : Int) = 0 := by omega
        go_wp2_with fail
        go_ret
        exact ⟨rfl, hb05.trans (hbr.mono hb05.size)⟩
      · have hz0' : ¬ (q'.length : Int) = 0 := by omega
        have hz0'' : ((q'.length : Int) == 0) = false := by simpa using hz0
        obtain ⟨gb, rfl⟩ := ho5.isSome (by rintro rfl; simp at hz0)
        obtain ⟨j, hj⟩ : ∃ j : Nat, n % (q'.length : Int) = (j : Int) := ⟨(n % (q'.length : Int)).toNat, (Int.toNat_of_nonneg (Int.emod_nonneg _ hz0')).symm⟩
        have hjl : j < q'.length := by have := Int.emod_lt_of_pos n (show (0 : Int) < q'.length by omega); omega
        obtain ⟨b2, o2, x, hA2, hx, D1⟩ := StubE.get (HQ' wr) hjl
        injection hA2 with hA2
        injection hA2 with hA2 hA3
        subst hA2 hA3
        have D2 : ∀ (u : World) [Later wr u], u.cell? ⟨gb, j * 12, none⟩ = some (.int .i64 x.owner) ∧ u.cell? ⟨gb, j * 12 + 1, none⟩ = some (.int .u64 x.number) ∧ u.cell? ⟨gb, j * 12 + 2, none⟩ = some (.int .i64 x.iDMachine) ∧ u.cell? ⟨gb, j * 12 + 3, none⟩ = some (.int .i64 x.iDSerial) ∧ u.cell? ⟨gb, j * 12 + 4, none⟩ = some (.int .i64 x.clas) ∧ u.cell? ⟨gb, j * 12 + 5, none⟩ = some (.int .i64 x.lastUse) ∧ u.cell? ⟨gb, j * 12 + 6, none⟩ = some (.int .i64 x.distance) ∧ u.cell? ⟨gb, j * 12 + 7, none⟩ = some (.bool x.touched) ∧ u.cell? ⟨gb, j * 12 + 8, none⟩ = some (.bool x.weak) ∧ u.cell? ⟨gb, j * 12 + 9, none⟩ = some (.bool x.dead) ∧ u.cell? ⟨gb, j * 12 + 10, none⟩ = some (.int .i64 x.lockMachine) ∧ u.cell? ⟨gb, j * 12 + 11, none⟩ = some (.int .i64 x.lockSerial) := fun u _ => by simpa only [Nat.zero_add] using D1 u
        clear D1
        obtain ⟨i, hxi⟩ := List.getElem?_of_mem (hq'.out.1.mem_iff.1 (List.mem_of_getElem? hx))
        have hiv := inv_clear hLi'.out
        have hx0 : 0 ≤ x.lastUse := by
          have h := hiv.valid x (List.mem_of_getElem? hxi)
          simp only [validE, Bool.and_eq_true, decide_eq_true_eq] at h
          exact h.2.2.2.2.2.1
        have hfx : findK keyE (L.map clearE) (keyE x) = some x := findK_at hiv.keys hxi rfl
        obtain ⟨y, hy⟩ : ∃ y : StubE, y = { x with lastUse := max x.lastUse seq, touched := true } := ⟨_, rfl⟩
        have hyk : keyE x = keyE y := by rw [hy]; rfl
        have hset : putK keyE (L.map clearE) y = (L.map clearE).set i y := putK_old hiv.keys hxi hyk
        have HT : seq < 0 → ∀ u [Later w5 u], Calls Try.prog 21 #[.pointer (some ⟨p, 0, none⟩), .int .i64 x.owner, .int .u64 x.number] u (MutPost u p g 0 ((L.map clearE).set i y)) := fun hsq u iu => by
          have h := touch_any p g (L.map clearE) (keyE x) u (hT5.later u)
          have e1 : chErr (L.map clearE) (keyE x) = 0 := by unfold chErr hasK; rw [hfx]; rfl
          have e2 : chT touchE (L.map clearE) (keyE x) = (L.map clearE).set i y := by
            unfold chT; rw [hfx]
            have : touchE x = y := by rw [hy, show max x.lastUse seq = x.lastUse by omega]; rfl
            simp only [this]; exact hset
          rw [e1, e2] at h; exact h
        have HU : ¬ seq < 0 → ∀ u [Later w5 u], Calls Try.prog 22 #[.pointer (some ⟨p, 0, none⟩), .int .i64 x.owner, .int .u64 x.number, .int .i64 seq] u (MutPost u p g 0 ((L.map clearE).set i y)) := fun hsq u iu => by
          have h := use_any p g (L.map clearE) (keyE x) seq u (hT5.later u)
          have e1 : useErr seq (L.map clearE) (keyE x) = 0 := by unfold useErr chErr hasK; rw [if_neg hsq, hfx]; rfl
          have e2 : useT seq (L.map clearE) (keyE x) = (L.map clearE).set i y := by
            unfold useT chT; rw [if_neg hsq, hfx]
            have : useE seq x = y := by rw [hy]; rfl
            simp only [this]; exact hset
          rw [e1, e2] at h; exact h
        have Hx := hide hx
        have Hxi := hide hxi
        have Hy := hide hy
        have Hyk := hide hyk
        have Hiv := hide hiv
        clear hx hxi hfx hset hy hyk hiv hz0 hlne HQ
        go_upto_region 24 with fail
        refine wp_name ?_
        intro w7 hw7
        obtain ⟨BX, l7⟩ := box1 hw7
        have hzr : w5.heap.size ≤ wr.heap.size := hbr.size
        clear hw7
        by_cases hsq : seq < 0
        · go_upto_region 29 with (go_at_call 21; refine (HT hsq _).mono ?_; rintro r w8 ⟨rfl, hT8, hg8⟩)
          have g8 : Gro g w7 w8 := ⟨hg8⟩
          have hX8 := boxed ((boxed_gro BX (g := g) (by omega)) w8).1
          have ho8 := (ho5.later w7).kept hg8 (own_notG ho5 (by omega))
          have hz8 := hg8.size
          have hT8' := hT8
          clear BX
          go_upto_region 31 with fail
          refine wp_name ?_
          intro w9 hw9
          have B9 := boxed_set2 hX8 hw9
          have hgb : w4.heap.size ≤ gb := ho5.base_le
          have hgbl : gb < w5.heap.size := ho5.lt
          have hgx : (Value.slice (some ⟨gb, 0, none⟩) q'.length D').ownBlock ≠ some wr.heap.size := fun e => by simp [Value.ownBlock] at e; omega
          have ho9 : Own StubE.cells 12 37 w4.heap.size w9 (.slice (some ⟨gb, 0, none⟩) q'.length D') q' := by
            rw [← hw9]; exact (ho8.far (p := ⟨wr.heap.size, 7, none⟩) hgx _).far (p := ⟨wr.heap.size, 5, none⟩) hgx _
          have hw5 : w.heap.size ≤ wr.heap.size := by have := hb05.size; omega
          have hb89 : Below w.heap.size w8 w9 := by rw [← hw9]; exact ((Below.refl _ _).setCell hw5 _).setCell hw5 _
          have hz89 := hb89.size
          have B9y : Boxed w9 wr.heap.size y.arr 37 := by rw [Hy.out]; exact B9
          have hT9 : TabAt w9 p g ((L.map clearE).set i y) := hT8'.of_heap (by rw [← hw9, blk_far (by simp only; omega), blk_far (by simp only; omega)]) (by rw [← hw9, blk_far (by simp only; omega), blk_far (by simp only; omega)])
          have e0 := ho9.cell StubE.enc Hx.out (j := 0) rfl
          have z0 := ho9.free (j * 12 + 0)
          have e1 := ho9.cell StubE.enc Hx.out (j := 1) rfl
          have z1 := ho9.free (j * 12 + 1)
          have e2 := ho9.cell StubE.enc Hx.out (j := 2) rfl
          have z2 := ho9.free (j * 12 + 2)
          have e3 := ho9.cell StubE.enc Hx.out (j := 3) rfl
          have z3 := ho9.free (j * 12 + 3)
          have e4 := ho9.cell StubE.enc Hx.out (j := 4) rfl
          have z4 := ho9.free (j * 12 + 4)
          have e5 := ho9.cell StubE.enc Hx.out (j := 5) rfl
          have z5 := ho9.free (j * 12 + 5)
          have e6 := ho9.cell StubE.enc Hx.out (j := 6) rfl
          have z6 := ho9.free (j * 12 + 6)
          have e7 := ho9.cell StubE.enc Hx.out (j := 7) rfl
          have z7 := ho9.free (j * 12 + 7)
          have e8 := ho9.cell StubE.enc Hx.out (j := 8) rfl
          have z8 := ho9.free (j * 12 + 8)
          have e9 := ho9.cell StubE.enc Hx.out (j := 9) rfl
          have z9 := ho9.free (j * 12 + 9)
          have e10 := ho9.cell StubE.enc Hx.out (j := 10) rfl
          have z10 := ho9.free (j * 12 + 10)
          have e11 := ho9.cell StubE.enc Hx.out (j := 11) rfl
          have z11 := ho9.free (j * 12 + 11)
          simp only [Nat.add_zero] at e0 z0
          clear B9 hw9
          go_upto_region 32 with fail
          refine wp_name ?_
          intro w10 hw10
          have hset10 : w9.setCells gb (j * 12) y.cells = w10 := hw10
          have ho10 := own_setStub (y := y) ho9 Hx.out
          rw [hset10] at ho10
          have hg10 := setCells_grownBy gb y.cells (j * 12) w9
          rw [hset10] at hg10
          have hT10 : TabAt w10 p g ((L.map clearE).set i y) := hT9.of_heap (hg10.block p (by have := blk_lt hT9.1; omega) (by intro e; injection e with e; omega)) (hg10.block g (by have := hT9.2.lt; omega) (by intro e; injection e with e; omega))
          have hq10 := (ho10.at_ StubE.enc).2.2
          clear e0 e1 e2 e3 e4 e5 e6 e7 e8 e9 e10 e11 z0 z1 z2 z3 z4 z5 z6 z7 z8 z9 z10 z11 hw10 hset10 ho9 B9y
          have hll : ((L.map clearE).set i y).length ≤ 30 := by rw [List.length_set]; exact hLc
          go_wp2_with (go_at_call 12; refine (list_any p g _ _ hT10 (by omega)).mono ?_; rintro r w11 ⟨q2, B2, D2, hq2, rfl, ho11, hb11⟩)
          have hq2e : q2 = q'.set j y := sortedS_unique hq2.out.2 (sortedS_set hq'.out.2 Hx.out Hyk.out) (hq2.out.1.trans (perm_set hq'.out.1 Hxi.out Hx.out).symm)
          have hs11 := (ho11.at_ StubE.enc).2.2
          have HSm : Calls Try.prog 15 #[.slice B2 q2.length D2, .slice (some ⟨gb, 0, none⟩) q'.length D'] w11 fun r w' => r = .returned (.bool true) ∧ Below w11.heap.size w11 w' := by
            have e : q'.length = q2.length := by rw [hq2e, List.length_set]
            rw [e]
            exact sameTrue_any B2 D2 _ D' q2 w11 hs11 (by rw [hq2e]; exact hq10.below hb11) (by rw [← e]; omega)
          have Hq2e := hide hq2e
          clear hq2e hs11
          go_wp2_with (go_at_call 15; refine HSm.mono ?_; rintro r w12 ⟨rfl, hb12⟩)
          go_ret
          have hz9 : w8.heap.size ≤ w9.heap.size := hz89
          have hbA : Below w.heap.size w w7 := (hb05.trans (hbr.mono hb05.size)).trans ((below_of (b := wr) (w := w7)).mono (hb05.trans (hbr.mono hb05.size)).size)
          have hbB : Below w.heap.size w w8 := hbA.trans (grown_belowG hg8 hgw hbA.size)
          have hbC : Below w.heap.size w w9 := hbB.trans hb89
          have hbD : Below w.heap.size w w10 := hbC.trans (grown_belowG hg10 (by omega) hbC.size)
          have hbE : Below w.heap.size w w11 := hbD.trans (hb11.mono hbD.size)
          exact ⟨rfl, hbE.trans (hb12.mono hbE.size)⟩
        · go_upto_region 29 with (go_at_call 22; refine (HU hsq _).mono ?_; rintro r w8 ⟨rfl, hT8, hg8⟩)
          have g8 : Gro g w7 w8 := ⟨hg8⟩
          have hX8 := boxed ((boxed_gro BX (g := g) (by omega)) w8).1
          have ho8 := (ho5.later w7).kept hg8 (own_notG ho5 (by omega))
          have hz8 := hg8.size
          have hT8' := hT8
          clear BX
          go_upto_region 31 with fail
          refine wp_name ?_
          intro w9 hw9
          have B9 := boxed_set2 hX8 hw9
          have hgb : w4.heap.size ≤ gb := ho5.base_le
          have hgbl : gb < w5.heap.size := ho5.lt
          have hgx : (Value.slice (some ⟨gb, 0, none⟩) q'.length D').ownBlock ≠ some wr.heap.size := fun e => by simp [Value.ownBlock] at e; omega
          have ho9 : Own StubE.cells 12 37 w4.heap.size w9 (.slice (some ⟨gb, 0, none⟩) q'.length D') q' := by
            rw [← hw9]; exact (ho8.far (p := ⟨wr.heap.size, 7, none⟩) hgx _).far (p := ⟨wr.heap.size, 5, none⟩) hgx _
          have hw5 : w.heap.size ≤ wr.heap.size := by have := hb05.size; omega
          have hb89 : Below w.heap.size w8 w9 := by rw [← hw9]; exact ((Below.refl _ _).setCell hw5 _).setCell hw5 _
          have hz89 := hb89.size
          have B9y : Boxed w9 wr.heap.size y.arr 37 := by rw [Hy.out]; exact B9
          have hT9 : TabAt w9 p g ((L.map clearE).set i y) := hT8'.of_heap (by rw [← hw9, blk_far (by simp only; omega), blk_far (by simp only; omega)]) (by rw [← hw9, blk_far (by simp only; omega), blk_far (by simp only; omega)])
          have e0 := ho9.cell StubE.enc Hx.out (j := 0) rfl
          have z0 := ho9.free (j * 12 + 0)
          have e1 := ho9.cell StubE.enc Hx.out (j := 1) rfl
          have z1 := ho9.free (j * 12 + 1)
          have e2 := ho9.cell StubE.enc Hx.out (j := 2) rfl
          have z2 := ho9.free (j * 12 + 2)
          have e3 := ho9.cell StubE.enc Hx.out (j := 3) rfl
          have z3 := ho9.free (j * 12 + 3)
          have e4 := ho9.cell StubE.enc Hx.out (j := 4) rfl
          have z4 := ho9.free (j * 12 + 4)
          have e5 := ho9.cell StubE.enc Hx.out (j := 5) rfl
          have z5 := ho9.free (j * 12 + 5)
          have e6 := ho9.cell StubE.enc Hx.out (j := 6) rfl
          have z6 := ho9.free (j * 12 + 6)
          have e7 := ho9.cell StubE.enc Hx.out (j := 7) rfl
          have z7 := ho9.free (j * 12 + 7)
          have e8 := ho9.cell StubE.enc Hx.out (j := 8) rfl
          have z8 := ho9.free (j * 12 + 8)
          have e9 := ho9.cell StubE.enc Hx.out (j := 9) rfl
          have z9 := ho9.free (j * 12 + 9)
          have e10 := ho9.cell StubE.enc Hx.out (j := 10) rfl
          have z10 := ho9.free (j * 12 + 10)
          have e11 := ho9.cell StubE.enc Hx.out (j := 11) rfl
          have z11 := ho9.free (j * 12 + 11)
          simp only [Nat.add_zero] at e0 z0
          clear B9 hw9
          go_upto_region 32 with fail
          refine wp_name ?_
          intro w10 hw10
          have hset10 : w9.setCells gb (j * 12) y.cells = w10 := hw10
          have ho10 := own_setStub (y := y) ho9 Hx.out
          rw [hset10] at ho10
          have hg10 := setCells_grownBy gb y.cells (j * 12) w9
          rw [hset10] at hg10
          have hT10 : TabAt w10 p g ((L.map clearE).set i y) := hT9.of_heap (hg10.block p (by have := blk_lt hT9.1; omega) (by intro e; injection e with e; omega)) (hg10.block g (by have := hT9.2.lt; omega) (by intro e; injection e with e; omega))
          have hq10 := (ho10.at_ StubE.enc).2.2
          clear e0 e1 e2 e3 e4 e5 e6 e7 e8 e9 e10 e11 z0 z1 z2 z3 z4 z5 z6 z7 z8 z9 z10 z11 hw10 hset10 ho9 B9y
          have hll : ((L.map clearE).set i y).length ≤ 30 := by rw [List.length_set]; exact hLc
          go_wp2_with (go_at_call 12; refine (list_any p g _ _ hT10 (by omega)).mono ?_; rintro r w11 ⟨q2, B2, D2, hq2, rfl, ho11, hb11⟩)
          have hq2e : q2 = q'.set j y := sortedS_unique hq2.out.2 (sortedS_set hq'.out.2 Hx.out Hyk.out) (hq2.out.1.trans (perm_set hq'.out.1 Hxi.out Hx.out).symm)
          have hs11 := (ho11.at_ StubE.enc).2.2
          have HSm : Calls Try.prog 15 #[.slice B2 q2.length D2, .slice (some ⟨gb, 0, none⟩) q'.length D'] w11 fun r w' => r = .returned (.bool true) ∧ Below w11.heap.size w11 w' := by
            have e : q'.length = q2.length := by rw [hq2e, List.length_set]
            rw [e]
            exact sameTrue_any B2 D2 _ D' q2 w11 hs11 (by rw [hq2e]; exact hq10.below hb11) (by rw [← e]; omega)
          have Hq2e := hide hq2e
          clear hq2e hs11
          go_wp2_with (go_at_call 15; refine HSm.mono ?_; rintro r w12 ⟨rfl, hb12⟩)
          go_ret
          have hz9 : w8.heap.size ≤ w9.heap.size := hz89
          have hbA : Below w.heap.size w w7 := (hb05.trans (hbr.mono hb05.size)).trans ((below_of (b := wr) (w := w7)).mono (hb05.trans (hbr.mono hb05.size)).size)
          have hbB : Below w.heap.size w w8 := hbA.trans (grown_belowG hg8 hgw hbA.size)
          have hbC : Below w.heap.size w w9 := hbB.trans hb89
          have hbD : Below w.heap.size w w10 := hbC.trans (grown_belowG hg10 (by omega) hbC.size)
          have hbE : Below w.heap.size w w11 := hbD.trans (hb11.mono hbD.size)
          exact ⟨rfl, hbE.trans (hb12.mono hbE.size)⟩
end Go.Proofs.Ytgddapgdeaeggaa
