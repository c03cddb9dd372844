/-
  Contracts of the functions of this seat that each theorem names: what a call returns, and that it writes nothing that was there before. The conditions stand in each theorem.
-/
import Derived.Test.YtgddapgdeaeggaaC23LawF1
namespace Go.Proofs.Ytgddapgdeaeggaa
open Go.RowKit
attribute [local go_sem ↓] run_eql_id run_neq_id
theorem neq_self (y : StubE) (u : World) : (binOp .neq 37 y.v y.v).run Try.prog u = .ok (.bool false) u :=
  (run_neq_StubE y y u).trans (by rw [StubE.beq_iff.2 rfl]; rfl)
theorem find_isSome {κ : Type} [DecidableEq κ] {kf : StubE → κ} {L q : List StubE} {k : κ} (hp : q.Perm L) : (findK kf L k).isSome = q.any fun x => decide (kf x = k) := by
  unfold findK
  rw [Bool.eq_iff_iff, List.find?_isSome, List.any_eq_true]
  exact ⟨fun ⟨x, hx, h⟩ => ⟨x, hp.mem_iff.2 hx, h⟩, fun ⟨x, hx, h⟩ => ⟨x, hp.mem_iff.1 hx, h⟩⟩
theorem find_none_zero {κ : Type} [DecidableEq κ] {kf : StubE → κ} {L : List StubE} {k : κ} (h : (findK kf L k).isSome = false) : (findK kf L k).getD zeroE = zeroE := by
  cases hf : findK kf L k with
  | none => rfl
  | some x => rw [hf] at h; cases h
theorem key_iff (y : StubE) (o n : Int) : decide (keyE y = ⟨o, n⟩) = (decide (y.owner = o) && decide (y.number = n)) := by
  rw [Bool.eq_iff_iff, decide_eq_true_eq, KeyE.ext_iff]
  simp [keyE]
theorem id_iff (y : StubE) (id : IDE) : decide (idE y = id) = ideq y.iDMachine y.iDSerial id.machine id.serial := ideq_iff.symm
theorem bd (a b : Int) : (a == b) = decide (a = b) := by by_cases h : a = b <;> simp [h]
theorem flt1 {y : StubE} {o : Int} (h : (y.owner == o) = true) : (List.filter (fun t => !nown o t) [y]).length = 1 := by simp [List.filter, nown, bne, h]
theorem flt0 {y : StubE} {o : Int} (h : (y.owner == o) = false) : (List.filter (fun t => !nown o t) [y]).length = 0 := by simp [List.filter, nown, bne, h]
theorem heap_set12 {u w' : World} {g : Nat} {y : StubE} (h : u.heap[g]? = some (.cells zeroE.arr 37 (0, 0))) (e : u.setCells g 0 y.cells = w') : Boxed w' g y.arr 37 := by
  have h12 := blk_set (blk_set (blk_set (blk_set (blk_set (blk_set (blk_set (blk_set (blk_set (blk_set (blk_set (blk_set h 0 (.int .i64 y.owner)) 1 (.int .u64 y.number)) 2 (.int .i64 y.iDMachine)) 3 (.int .i64 y.iDSerial)) 4 (.int .i64 y.clas)) 5 (.int .i64 y.lastUse)) 6 (.int .i64 y.distance)) 7 (.bool y.touched)) 8 (.bool y.weak)) 9 (.bool y.dead)) 10 (.int .i64 y.lockMachine)) 11 (.int .i64 y.lockSerial)
  have ea : ∀ v0 v1 v2 v3 v4 v5 v6 v7 v8 v9 v10 v11 : Value, ((((((((((((zeroE.arr.setIfInBounds 0 v0).setIfInBounds 1 v1).setIfInBounds 2 v2).setIfInBounds 3 v3).setIfInBounds 4 v4).setIfInBounds 5 v5).setIfInBounds 6 v6).setIfInBounds 7 v7).setIfInBounds 8 v8).setIfInBounds 9 v9).setIfInBounds 10 v10).setIfInBounds 11 v11) = #[v0, v1, v2, v3, v4, v5, v6, v7, v8, v9, v10, v11] := fun _ _ _ _ _ _ _ _ _ _ _ _ => by simp [StubE.arr]
  rw [ea] at h12
  refine boxed ?_
  rw [← e]
  simp only [StubE.cells, World.setCells, Nat.zero_add, Nat.reduceAdd]
  exact h12
set_option maxRecDepth 100000 in
set_option maxHeartbeats 8000000 in
theorem finds_any (A : Option Addr) (C : Nat) (cs : List CallE) (own num : Int) (id : IDE) (w : World) (hs : SlAt CallE.cells 14 w A cs) (hl : cs.length ≤ 9223372036854775807) : Calls Try.prog 7 #[.slice A cs.length C, .int .i64 own, .int .u64 num, id.v] w fun r w' => r = .returned (.bool true) ∧ Below w.heap.size w w' := by
  have HS : ∀ u [Later w u], SlAt CallE.cells 14 u A cs := fun u i => hs.below i.below
  go_enter Try.func7, Try.ntmps7
  go_upto_region 1 with fail
  refine wp_name ?_
  intro w0 hw0
  obtain ⟨B0, l0⟩ := box1 hw0
  clear hw0
  by_cases hlen : (30 : Int) < (cs.length : Int)
  · go_wp2_with (go_at_call 10; refine (awake_any _).mono ?_; rintro r w1 ⟨rfl, hb1⟩; have l1 := later hb1)
    go_ret
    exact ⟨rfl, below_of⟩
  have hcl : cs.length ≤ 30 := by omega
  go_wp2_with (go_at_call 10; refine (awake_any _).mono ?_; rintro r w1 ⟨rfl, hb1⟩; have l1 := later hb1)
  go_wp2_with (go_at_call 16; refine (run_any A C cs _ (HS _) (by omega)).mono ?_; rintro r w2 ⟨p, g, rfl, hp, hg, hT0, hb2⟩; have l2 := later hb2)
  obtain ⟨L, hL⟩ : ∃ L, L = runT cs := ⟨_, rfl⟩
  have hLi : Inv L := by rw [hL]; exact inv_run cs
  have hLl : L.length ≤ 30 := by have := run_len cs; rw [hL]; omega
  rw [← hL] at hT0
  clear hL
  go_wp2_with (go_at_call 12; refine (list_any p g L _ (hT0.later _) (by omega)).mono ?_; rintro r w3 ⟨q, B, D, hq, rfl, ho3, hb3⟩; have l3 := later hb3)
  have hq3 := (ho3.at_ StubE.enc).2.2
  have HQ : ∀ u [Later w3 u], SlAt StubE.cells 12 u B q := fun u i => hq3.below i.below
  have hql : q.length ≤ 30 := by rw [hq.out.1.length_eq]; exact hLl
  have hT := hT0.later
  have HFy := hide (fun (y : StubE) (hy : y ∈ q) => show findK keyE L (keyE y) = some y by
    obtain ⟨j, hj⟩ := List.getElem?_of_mem (hq.out.1.mem_iff.1 hy)
    exact findK_at hLi.keys hj rfl)
  have HIy := hide (fun (y : StubE) (hy : y ∈ q) => show findK idE L (idE y) = some y by
    obtain ⟨j, hj⟩ := List.getElem?_of_mem (hq.out.1.mem_iff.1 hy)
    exact findK_at hLi.ids hj rfl)
  have HF : ∀ (o n : Int) (u : World) [Later w2 u], Calls Try.prog 18 #[.pointer (some ⟨p, 0, none⟩), .int .i64 o, .int .u64 n] u (FindPost u (findK keyE L ⟨o, n⟩)) := fun o n u i => find_any p g L o n u (hT u)
  have HB : ∀ (i : IDE) (u : World) [Later w2 u], Calls Try.prog 19 #[.pointer (some ⟨p, 0, none⟩), i.v] u (FindPost u (findK idE L i)) := fun i u j => byID_any p g L i u (hT u) hLi.ids
  have HF' := hide HF
  have HB' := hide HB
  have HO : ∀ (u : World) [Later w2 u], Calls Try.prog 23 #[.pointer (some ⟨p, 0, none⟩), .int .i64 own] u (OwnedPost u L own) := fun u i => owned_any p g L own u (hT u) (by omega)
  have HO' := hide HO
  have hneq0 : ∀ u, (binOp .neq 37 (.agg #[.int .i64 0, .int .u64 0, .int .i64 0, .int .i64 0, .int .i64 0, .int .i64 0, .int .i64 0, .bool false, .bool false, .bool false, .int .i64 0, .int .i64 0]) (.agg #[.int .i64 0, .int .u64 0, .int .i64 0, .int .i64 0, .int .i64 0, .int .i64 0, .int .i64 0, .bool false, .bool false, .bool false, .int .i64 0, .int .i64 0])).run Try.prog u = .ok (.bool false) u := neq_self zeroE
  clear ho3 hq3 hT0 hT HF HB HO hLi
  go_wp2_with fail
  go_loopw [11, 12, 13, 14, 15, 16, 17, 18] (fun kv iv nv i _ _ _ _ wr => ∃ (k : Nat) (kb ib : Bool) (n : Nat), k ≤ q.length ∧ i = .int .i64 k ∧ kv = .bool kb ∧ iv = .bool ib ∧ nv = .int .i64 n ∧ Hid (kb = (q.take k).any (fun x => decide (keyE x = ⟨own, num⟩)) ∧ ib = (q.take k).any (fun x => decide (idE x = id)) ∧ n = ((q.take k).filter fun t => !nown own t).length) ∧ n ≤ k ∧ Below w3.heap.size w3 wr) (fun _ _ _ i _ _ _ _ _ => q.length - (intOf i).toNat)
  case atStart => exact ⟨0, false, false, 0, by omega, rfl, rfl, rfl, rfl, hide ⟨rfl, rfl, rfl⟩, by omega, Below.refl _ _⟩
  case round =>
    obtain ⟨k, kb, ib, n, hk, rfl, rfl, rfl, rfl, hR, hnk, hbr⟩ := hrel
    have lr := later hbr
    by_cases hlt : k < q.length
    · obtain ⟨b1, o1, y, rfl, hy, C1⟩ := StubE.get (HQ wr) hlt
      have Hy := hide hy
      have hym := List.mem_of_getElem? hy
      have HFf : ∀ (u : World) [Later w2 u], Calls Try.prog 18 #[.pointer (some ⟨p, 0, none⟩), .int .i64 y.owner, .int .u64 y.number] u fun r w' => r = .returned (.tuple #[y.v, .bool true]) ∧ Below u.heap.size u w' := fun u i => by
        have h := HF'.out y.owner y.number u
        rw [show (⟨y.owner, y.number⟩ : KeyE) = keyE y from rfl, HFy.out y hym] at h; exact h
      have HBf : ∀ (u : World) [Later w2 u], Calls Try.prog 19 #[.pointer (some ⟨p, 0, none⟩), .agg #[.int .i64 y.iDMachine, .int .i64 y.iDSerial]] u fun r w' => r = .returned (.tuple #[y.v, .bool true]) ∧ Below u.heap.size u w' := fun u i => by
        have h := HB'.out (idE y) u
        rw [HIy.out y hym] at h; exact h
      have hneq := neq_self y
      have hkey := hide (key_iff y own num)
      have hid := hide (id_iff y id)
      have hno := hide (show nown own y = !decide (y.owner = own) by unfold nown; by_cases h : y.owner = own <;> simp [h])
      clear hy hym
      go_upto_region 13 with fail
      refine wp_region_held_drew (S := fun w' => ∀ b [Later b wr], Later b w') (by kernel_rfl) (by intro b _; infer_instance) (fun hHeld => ?_)
      refine wpAnyH_take (i := 0) (oi := _) (v := ?_) rfl (by kernel_rfl) (by kernel_rfl) (by kernel_rfl) (fun _ _ _ h => h) (Or.inl ⟨by rfl, ?_⟩) (by assumption) ?_
      rotate_left 1
      · (intro wy hSw; (try dsimp only at hSw); go_simp; try with_reducible rfl)
      (try simp only [Act.put, List.setIfInBounds_toArray, List.set_cons_zero, List.set_cons_succ])
      refine wpAnyH_take (i := 1) (oi := _) (v := ?_) rfl (by kernel_rfl) (by kernel_rfl) (by kernel_rfl) (fun _ _ _ h => h) (Or.inl ⟨by rfl, ?_⟩) (by assumption) ?_
      rotate_left 1
      · (intro wy hSw; (try dsimp only at hSw); go_simp; try with_reducible rfl)
      (try simp only [Act.put, List.setIfInBounds_toArray, List.set_cons_zero, List.set_cons_succ])
      refine wpAnyH_take (i := 2) (oi := _) (v := ?_) rfl (by kernel_rfl) (by kernel_rfl) (by kernel_rfl) (fun _ _ _ h => h) (Or.inl ⟨by rfl, ?_⟩) (by assumption) ?_
      rotate_left 1
      · (intro wy hSw; (try dsimp only at hSw); go_simp; try with_reducible rfl)
      (try simp only [Act.put, List.setIfInBounds_toArray, List.set_cons_zero, List.set_cons_succ])
      refine wpAnyH_take (i := 3) (oi := _) (v := ?_) rfl (by kernel_rfl) (by kernel_rfl) (by kernel_rfl) (fun _ _ _ h => h) (Or.inl ⟨by rfl, ?_⟩) (by assumption) ?_
      rotate_left 1
      · (intro wy hSw; (try dsimp only at hSw); go_simp; try with_reducible rfl)
      (try simp only [Act.put, List.setIfInBounds_toArray, List.set_cons_zero, List.set_cons_succ])
      refine wpAnyH_take (i := 4) (oi := _) (v := ?_) rfl (by kernel_rfl) (by kernel_rfl) (by kernel_rfl) (fun _ _ _ h => h) (Or.inl ⟨by rfl, ?_⟩) (by assumption) ?_
      rotate_left 1
      · (intro wy hSw; (try dsimp only at hSw); go_simp; try with_reducible rfl)
      (try simp only [Act.put, List.setIfInBounds_toArray, List.set_cons_zero, List.set_cons_succ])
      refine wpAnyH_take (i := 5) (oi := _) (v := ?_) rfl (by kernel_rfl) (by kernel_rfl) (by kernel_rfl) (fun _ _ _ h => h) (Or.inl ⟨by rfl, ?_⟩) (by assumption) ?_
      rotate_left 1
      · (intro wy hSw; (try dsimp only at hSw); go_simp; try with_reducible rfl)
      (try simp only [Act.put, List.setIfInBounds_toArray, List.set_cons_zero, List.set_cons_succ])
      refine wpAnyH_take (i := 6) (oi := _) (v := ?_) rfl (by kernel_rfl) (by kernel_rfl) (by kernel_rfl) (fun _ _ _ h => h) (Or.inl ⟨by rfl, ?_⟩) (by assumption) ?_
      rotate_left 1
      · (intro wy hSw; (try dsimp only at hSw); go_simp; try with_reducible rfl)
      (try simp only [Act.put, List.setIfInBounds_toArray, List.set_cons_zero, List.set_cons_succ])
      refine wpAnyH_take (i := 7) (oi := _) (v := ?_) rfl (by kernel_rfl) (by kernel_rfl) (by kernel_rfl) (fun _ _ _ h => h) (Or.inl ⟨by rfl, ?_⟩) (by assumption) ?_
      rotate_left 1
      · (intro wy hSw; (try dsimp only at hSw); go_simp; try with_reducible rfl)
      (try simp only [Act.put, List.setIfInBounds_toArray, List.set_cons_zero, List.set_cons_succ])
      refine wpAnyH_take (i := 8) (oi := _) (v := ?_) rfl (by kernel_rfl) (by kernel_rfl) (by kernel_rfl) (fun _ _ _ h => h) (Or.inl ⟨by rfl, ?_⟩) (by assumption) ?_
      rotate_left 1
      · (intro wy hSw; (try dsimp only at hSw); go_simp; try with_reducible rfl)
      (try simp only [Act.put, List.setIfInBounds_toArray, List.set_cons_zero, List.set_cons_succ])
      refine wpAnyH_take (i := 9) (oi := _) (v := ?_) rfl (by kernel_rfl) (by kernel_rfl) (by kernel_rfl) (fun _ _ _ h => h) (Or.inl ⟨by rfl, ?_⟩) (by assumption) ?_
      rotate_left 1
      · (intro wy hSw; (try dsimp only at hSw); go_simp; try with_reducible rfl)
      (try simp only [Act.put, List.setIfInBounds_toArray, List.set_cons_zero, List.set_cons_succ])
      refine wpAnyH_take (i := 10) (oi := _) (v := ?_) rfl (by kernel_rfl) (by kernel_rfl) (by kernel_rfl) (fun _ _ _ h => h) (Or.inl ⟨by rfl, ?_⟩) (by assumption) ?_
      rotate_left 1
      · (intro wy hSw; (try dsimp only at hSw); go_simp; try with_reducible rfl)
      (try simp only [Act.put, List.setIfInBounds_toArray, List.set_cons_zero, List.set_cons_succ])
      refine wpAnyH_ready (rs := [11, 15]) (by kernel_rfl) (by simp) ?_
      refine AllReadyH.cons (o := _) rfl (fun K9 hK9 => ?_) (AllReadyH.cons (o := _) rfl (fun K9 hK9 => ?_) AllReadyH.nil)
      · go_simp
        refine (HFf _).mono ?_
        rintro r w4 ⟨rfl, hb4⟩
        have l4 := later hb4
        refine hK9.out _ _ (by (intro b hbi; have hbz := (hbi : Later b wr).below.size; repeat (first | infer_instance | (refine later_setc (by first | (simp only; omega) | (simp; omega)) _ ?_)))) (fun hHeld => ?_)
        clear hK9 K9
        (try simp only [Act.put, List.setIfInBounds_toArray, List.set_cons_zero, List.set_cons_succ])
        refine wpAnyH_take (i := 12) (oi := _) (v := ?_) rfl (by kernel_rfl) (by kernel_rfl) (by kernel_rfl) (fun _ _ _ h => h) (Or.inl ⟨by rfl, ?_⟩) (by assumption) ?_
        rotate_left 1
        · (intro wy hSw; (try dsimp only at hSw); go_simp; try with_reducible rfl)
        (try simp only [Act.put, List.setIfInBounds_toArray, List.set_cons_zero, List.set_cons_succ])
        refine wpAnyH_take (i := 13) (oi := _) (v := ?_) rfl (by kernel_rfl) (by kernel_rfl) (by kernel_rfl) (fun _ _ _ h => h) (Or.inl ⟨by rfl, ?_⟩) (by assumption) ?_
        rotate_left 1
        · (intro wy hSw; (try dsimp only at hSw); go_simp; try with_reducible rfl)
        (try simp only [Act.put, List.setIfInBounds_toArray, List.set_cons_zero, List.set_cons_succ])
        refine wpAnyH_take (i := 14) (oi := _) (v := ?_) rfl (by kernel_rfl) (by kernel_rfl) (by kernel_rfl) (fun _ _ _ h => h) (Or.inl ⟨by rfl, ?_⟩) (by assumption) ?_
        rotate_left 1
        · (intro wy hSw; (try dsimp only at hSw); go_simp; try with_reducible rfl)
        (try simp only [Act.put, List.setIfInBounds_toArray, List.set_cons_zero, List.set_cons_succ])
        refine wpAnyH_ready (rs := [15]) (by kernel_rfl) (by simp) ?_
        refine AllReadyH.cons (o := _) rfl (fun K9 hK9 => ?_) AllReadyH.nil
        go_simp
        refine hK9.out _ _ (by (intro b hbi; have hbz := (hbi : Later b wr).below.size; repeat (first | infer_instance | (refine later_setc (by first | (simp only; omega) | (simp; omega)) _ ?_)))) (fun hHeld => ?_)
        clear hK9 K9
        (try simp only [Act.put, List.setIfInBounds_toArray, List.set_cons_zero, List.set_cons_succ])
        refine wpAnyH_ready (rs := [16]) (by kernel_rfl) (by simp) ?_
        refine AllReadyH.cons (o := _) rfl (fun K9 hK9 => ?_) AllReadyH.nil
        go_simp
        refine hK9.out _ _ (by (intro b hbi; have hbz := (hbi : Later b wr).below.size; repeat (first | infer_instance | (refine later_setc (by first | (simp only; omega) | (simp; omega)) _ ?_)))) (fun hHeld => ?_)
        clear hK9 K9
        (try simp only [Act.put, List.setIfInBounds_toArray, List.set_cons_zero, List.set_cons_succ])
        refine wpAnyH_take (i := 17) (oi := _) (v := ?_) rfl (by kernel_rfl) (by kernel_rfl) (by kernel_rfl) (fun _ _ _ h => h) (Or.inl ⟨by rfl, ?_⟩) (by assumption) ?_
        rotate_left 1
        · (intro wy hSw; (try dsimp only at hSw); go_simp; try with_reducible rfl)
        (try simp only [Act.put, List.setIfInBounds_toArray, List.set_cons_zero, List.set_cons_succ])
        refine wpAnyH_done (by kernel_rfl) ?_ _
        go_upto_region 14 with fail
        refine wp_name ?_
        intro w5 hw5
        have B5 := (box1 hw5).1
        have l5 : ∀ b [Later b wr], Later b w5 := by
          rw [← hw5]
          (intro b hbi; have hbz := (hbi : Later b wr).below.size; repeat (first | infer_instance | (refine later_setc (by first | (simp only; omega) | (simp; omega)) _ ?_)))
        clear hw5
        go_upto_region 15 with (go_at_call 19; refine (HBf _).mono ?_; rintro r w6 ⟨rfl, hb6⟩; have l6 := later hb6)
        refine wp_name ?_
        intro w7 hw7
        obtain ⟨B7, l7⟩ := box1 hw7
        clear hw7
        (refine wp_region_after (by kernel_rfl) (by kernel_rfl) ?_
         repeat (any_goals (first | go_big_quiet_skip | (go_big_quiet_want; go_big_quiet_op; first | go_big_quiet_on | go_big_quiet_call (fail)) | quiet_step (fail) | (refine wpQuiet_step (fun K hK => ?_); go_simp; split <;> (refine hK _ ?_; clear hK K))))
         all_goals (refine wpQuiet_nil ?_; intro _ hw'; obtain ⟨u', hw''⟩ := hw'; subst hw''; obtain ⟨wd, hbd⟩ := u'; simp only [After.val_mk]))
        have ld := later hbd
        go_upto_region 18 with fail
        all_goals
          (refine wp_region_after (by kernel_rfl) (by kernel_rfl) ?_
           repeat (any_goals (first | go_big_quiet_skip | (go_big_quiet_want; go_big_quiet_op; first | go_big_quiet_on | go_big_quiet_call (fail)) | quiet_step (fail) | (refine wpQuiet_step (fun K hK => ?_); go_simp; split <;> (refine hK _ ?_; clear hK K))))
           all_goals (refine wpQuiet_nil ?_; intro _ hw'; obtain ⟨u', hw''⟩ := hw'; subst hw''; obtain ⟨wd, hbd⟩ := u'; simp only [After.val_mk]))
          all_goals (try (exfalso; omega))
          all_goals have ld2 := later hbd
          all_goals go_wp2_with fail
          all_goals go_roundw
          all_goals (first
            | (simp [intOf]; omega)
            | exact ⟨k + 1, _, _, n, by omega, by go_num, rfl, rfl, by go_num, hide ⟨(by rw [take_snoc_get Hy.out, List.any_append, ← hR.out.1]; simp [hkey.out, bd, *]), (by rw [take_snoc_get Hy.out, List.any_append, ← hR.out.2.1]; simp [hid.out, *]), (by rw [take_snoc_get Hy.out, List.filter_append, List.length_append, ← hR.out.2.2, flt0 (by first | assumption | (refine beq_eq_false_iff_ne.2 ?_; assumption))]; simp)⟩, by omega, below_of⟩
            | exact ⟨k + 1, _, _, n + 1, by omega, by go_num, rfl, rfl, by go_num, hide ⟨(by rw [take_snoc_get Hy.out, List.any_append, ← hR.out.1]; simp [hkey.out, bd, *]), (by rw [take_snoc_get Hy.out, List.any_append, ← hR.out.2.1]; simp [hid.out, *]), (by rw [take_snoc_get Hy.out, List.filter_append, List.length_append, ← hR.out.2.2, flt1 (by first | assumption | (refine beq_iff_eq.2 ?_; assumption))])⟩, by omega, below_of⟩)
      · go_simp
        refine hK9.out _ _ (by (intro b hbi; have hbz := (hbi : Later b wr).below.size; repeat (first | infer_instance | (refine later_setc (by first | (simp only; omega) | (simp; omega)) _ ?_)))) (fun hHeld => ?_)
        clear hK9 K9
        (try simp only [Act.put, List.setIfInBounds_toArray, List.set_cons_zero, List.set_cons_succ])
        refine wpAnyH_ready (rs := [11]) (by kernel_rfl) (by simp) ?_
        refine AllReadyH.cons (o := _) rfl (fun K9 hK9 => ?_) AllReadyH.nil
        go_simp
        refine (HFf _).mono ?_
        rintro r w4 ⟨rfl, hb4⟩
        have l4 := later hb4
        have q5 := blk_below (heap_alloc_drew _ _) hb4
        have q6 := fun i => blk_cell q5 i
        have q7 := fun i => blk_free q5 i
        have hz4 := hb4.size
        refine hK9.out _ _ (by (intro b hbi; have hbz := (hbi : Later b wr).below.size; repeat (first | infer_instance | (refine later_setc (by first | (simp only; omega) | (simp; omega)) _ ?_)))) (fun hHeld => ?_)
        clear hK9 K9
        (try simp only [Act.put, List.setIfInBounds_toArray, List.set_cons_zero, List.set_cons_succ])
        refine wpAnyH_take (i := 12) (oi := _) (v := ?_) rfl (by kernel_rfl) (by kernel_rfl) (by kernel_rfl) (fun _ _ _ h => h) (Or.inl ⟨by rfl, ?_⟩) (by assumption) ?_
        rotate_left 1
        · (intro wy hSw; (try dsimp only at hSw); go_simp; try with_reducible rfl)
        (try simp only [Act.put, List.setIfInBounds_toArray, List.set_cons_zero, List.set_cons_succ])
        refine wpAnyH_take (i := 13) (oi := _) (v := ?_) rfl (by kernel_rfl) (by kernel_rfl) (by kernel_rfl) (fun _ _ _ h => h) (Or.inl ⟨by rfl, ?_⟩) (by assumption) ?_
        rotate_left 1
        · (intro wy hSw; (try dsimp only at hSw); go_simp; try with_reducible rfl)
        (try simp only [Act.put, List.setIfInBounds_toArray, List.set_cons_zero, List.set_cons_succ])
        refine wpAnyH_take (i := 14) (oi := _) (v := ?_) rfl (by kernel_rfl) (by kernel_rfl) (by kernel_rfl) (fun _ _ _ h => h) (Or.inl ⟨by rfl, ?_⟩) (by assumption) ?_
        rotate_left 1
        · (intro wy hSw; (try dsimp only at hSw); go_simp; try with_reducible rfl)
        (try simp only [Act.put, List.setIfInBounds_toArray, List.set_cons_zero, List.set_cons_succ])
        refine wpAnyH_ready (rs := [16]) (by kernel_rfl) (by simp) ?_
        refine AllReadyH.cons (o := _) rfl (fun K9 hK9 => ?_) AllReadyH.nil
        go_simp
        refine hK9.out _ _ (by (intro b hbi; have hbz := (hbi : Later b wr).below.size; repeat (first | infer_instance | (refine later_setc (by first | (simp only; omega) | (simp; omega)) _ ?_)))) (fun hHeld => ?_)
        clear hK9 K9
        (try simp only [Act.put, List.setIfInBounds_toArray, List.set_cons_zero, List.set_cons_succ])
        refine wpAnyH_take (i := 17) (oi := _) (v := ?_) rfl (by kernel_rfl) (by kernel_rfl) (by kernel_rfl) (fun _ _ _ h => h) (Or.inl ⟨by rfl, ?_⟩) (by assumption) ?_
        rotate_left 1
        · (intro wy hSw; (try dsimp only at hSw); go_simp; try with_reducible rfl)
        (try simp only [Act.put, List.setIfInBounds_toArray, List.set_cons_zero, List.set_cons_succ])
        refine wpAnyH_done (by kernel_rfl) ?_ _
        go_upto_region 14 with fail
        refine wp_name ?_
        intro w5 hw5
        have B5 := heap_set12 (y := y) q5 hw5
        have l5 : ∀ b [Later b wr], Later b w5 := by
          rw [← hw5]
          (intro b hbi; have hbz := (hbi : Later b wr).below.size; repeat (first | infer_instance | (refine later_setc (by first | (simp only; omega) | (simp; omega)) _ ?_)))
        clear hw5
        go_upto_region 15 with (go_at_call 19; refine (HBf _).mono ?_; rintro r w6 ⟨rfl, hb6⟩; have l6 := later hb6)
        refine wp_name ?_
        intro w7 hw7
        obtain ⟨B7, l7⟩ := box1 hw7
        clear hw7
        (refine wp_region_after (by kernel_rfl) (by kernel_rfl) ?_
         repeat (any_goals (first | go_big_quiet_skip | (go_big_quiet_want; go_big_quiet_op; first | go_big_quiet_on | go_big_quiet_call (fail)) | quiet_step (fail) | (refine wpQuiet_step (fun K hK => ?_); go_simp; split <;> (refine hK _ ?_; clear hK K))))
         all_goals (refine wpQuiet_nil ?_; intro _ hw'; obtain ⟨u', hw''⟩ := hw'; subst hw''; obtain ⟨wd, hbd⟩ := u'; simp only [After.val_mk]))
        have ld := later hbd
        go_upto_region 18 with fail
        all_goals
          (refine wp_region_after (by kernel_rfl) (by kernel_rfl) ?_
           repeat (any_goals (first | go_big_quiet_skip | (go_big_quiet_want; go_big_quiet_op; first | go_big_quiet_on | go_big_quiet_call (fail)) | quiet_step (fail) | (refine wpQuiet_step (fun K hK => ?_); go_simp; split <;> (refine hK _ ?_; clear hK K))))
           all_goals (refine wpQuiet_nil ?_; intro _ hw'; obtain ⟨u', hw''⟩ := hw'; subst hw''; obtain ⟨wd, hbd⟩ := u'; simp only [After.val_mk]))
          all_goals (try (exfalso; omega))
          all_goals have ld2 := later hbd
          all_goals go_wp2_with fail
          all_goals go_roundw
          all_goals (first
            | (simp [intOf]; omega)
            | exact ⟨k + 1, _, _, n, by omega, by go_num, rfl, rfl, by go_num, hide ⟨(by rw [take_snoc_get Hy.out, List.any_append, ← hR.out.1]; simp [hkey.out, bd, *]), (by rw [take_snoc_get Hy.out, List.any_append, ← hR.out.2.1]; simp [hid.out, *]), (by rw [take_snoc_get Hy.out, List.filter_append, List.length_append, ← hR.out.2.2, flt0 (by first | assumption | (refine beq_eq_false_iff_ne.2 ?_; assumption))]; simp)⟩, by omega, below_of⟩
            | exact ⟨k + 1, _, _, n + 1, by omega, by go_num, rfl, rfl, by go_num, hide ⟨(by rw [take_snoc_get Hy.out, List.any_append, ← hR.out.1]; simp [hkey.out, bd, *]), (by rw [take_snoc_get Hy.out, List.any_append, ← hR.out.2.1]; simp [hid.out, *]), (by rw [take_snoc_get Hy.out, List.filter_append, List.length_append, ← hR.out.2.2, flt1 (by first | assumption | (refine beq_iff_eq.2 ?_; assumption))])⟩, by omega, below_of⟩)
    · have hk' : k = q.length := by omega
      subst hk'
      rw [List.take_length] at hR
      have hkb : kb = (findK keyE L ⟨own, num⟩).isSome := hR.out.1.trans (find_isSome hq.out.1).symm
      have hib : ib = (findK idE L id).isSome := hR.out.2.1.trans (find_isSome hq.out.1).symm
      obtain ⟨x, hx⟩ : ∃ x, x = (findK keyE L ⟨own, num⟩).getD zeroE := ⟨_, rfl⟩
      obtain ⟨z, hz⟩ : ∃ x, x = (findK idE L id).getD zeroE := ⟨_, rfl⟩
      have HFe : ∀ u [Later w2 u], Calls Try.prog 18 #[.pointer (some ⟨p, 0, none⟩), .int .i64 own, .int .u64 num] u fun r w' => r = .returned (.tuple #[x.v, .bool kb]) ∧ Below u.heap.size u w' := fun u i => by
        have h := HF'.out own num u
        rw [hx, hkb]; exact h
      have HBe : ∀ u [Later w2 u], Calls Try.prog 19 #[.pointer (some ⟨p, 0, none⟩), .agg #[.int .i64 id.machine, .int .i64 id.serial]] u fun r w' => r = .returned (.tuple #[z.v, .bool ib]) ∧ Below u.heap.size u w' := fun u i => by
        have h := HB'.out id u
        rw [hz, hib]; exact h
      have hxz := hide (fun (h : kb = false) => show x.owner = 0 ∧ x.number = 0 ∧ x.iDMachine = 0 ∧ x.iDSerial = 0 ∧ x.clas = 0 ∧ x.lastUse = 0 ∧ x.distance = 0 ∧ x.touched = false ∧ x.weak = false ∧ x.dead = false ∧ x.lockMachine = 0 ∧ x.lockSerial = 0 by rw [hx, find_none_zero (hkb ▸ h)]; exact ⟨rfl, rfl, rfl, rfl, rfl, rfl, rfl, rfl, rfl, rfl, rfl, rfl⟩)
      have hzz := hide (fun (h : ib = false) => show z.owner = 0 ∧ z.number = 0 ∧ z.iDMachine = 0 ∧ z.iDSerial = 0 ∧ z.clas = 0 ∧ z.lastUse = 0 ∧ z.distance = 0 ∧ z.touched = false ∧ z.weak = false ∧ z.dead = false ∧ z.lockMachine = 0 ∧ z.lockSerial = 0 by rw [hz, find_none_zero (hib ▸ h)]; exact ⟨rfl, rfl, rfl, rfl, rfl, rfl, rfl, rfl, rfl, rfl, rfl, rfl⟩)
      obtain ⟨qf, hqf⟩ : ∃ qf, qf = q.filter fun t => !nown own t := ⟨_, rfl⟩
      have hnq : n = qf.length := by rw [hqf]; exact hR.out.2.2
      subst hnq
      have HQf := hide hqf
      clear hqf hx hz hkb hib
      have HOe : ∀ u [Later w2 u], Calls Try.prog 23 #[.pointer (some ⟨p, 0, none⟩), .int .i64 own] u fun r w' => ∃ A c, r = .returned (.slice A qf.length c) ∧ Own StubE.cells 12 37 u.heap.size w' (.slice A qf.length c) qf ∧ Below u.heap.size u w' := fun u i => (HO'.out u).mono (by
        rintro r w' ⟨q1, q0, A, c, h, rfl, ho, hb⟩
        have e : q1 = qf := by rw [h.out.2.2, HQf.out, sortedS_unique h.out.2.1 hq.out.2 (h.out.1.trans hq.out.1.symm)]
        rw [e] at ho ⊢
        exact ⟨A, c, rfl, ho, hb⟩)
      have HRe : ∀ u [Later w3 u], Calls Try.prog 24 #[.slice B q.length D, .int .i64 own] u fun r w' => ∃ A c, r = .returned (.slice A qf.length c) ∧ Own StubE.cells 12 37 u.heap.size w' (.slice A qf.length c) qf ∧ Below u.heap.size u w' := fun u i => (refOwned_any B D q own u (HQ u) (by omega)).mono (by
        rintro r w' ⟨q1, A, c, h, rfl, ho, hb⟩
        have e : q1 = qf := by rw [h.out, HQf.out]
        rw [e] at ho ⊢
        exact ⟨A, c, rfl, ho, hb⟩)
      cases kb
      · obtain ⟨x0, x1, x2, x3, x4, x5, x6, x7, x8, x9, x10, x11⟩ := hxz.out rfl
        cases ib
        · obtain ⟨z0, z1, z2, z3, z4, z5, z6, z7, z8, z9, z10, z11⟩ := hzz.out rfl
          go_upto_region 22 with (go_at_call 18; refine (HFe _).mono ?_; rintro r w4 ⟨rfl, hb4⟩; have l4 := later hb4)
          refine wp_name ?_
          intro w5 hw5
          obtain ⟨B5, l5⟩ := box1 hw5
          clear hw5
          go_upto_region 23 with (go_at_call 19; refine (HBe _).mono ?_; rintro r w6 ⟨rfl, hb6⟩; have l6 := later hb6)
          refine wp_name ?_
          intro w7 hw7
          obtain ⟨B7, l7⟩ := box1 hw7
          clear hw7
          go_wp2_with (first | (go_at_call 23; refine (HOe _).mono ?_; rintro r w8 ⟨A1, c1, rfl, ho8, hb8⟩; have l8 := later hb8; have hs8 := (ho8.at_ StubE.enc).2.2) | (go_at_call 24; refine (HRe _).mono ?_; rintro r w9 ⟨A2, c2, rfl, ho9, hb9⟩; have l9 := later hb9; have hs9 := (ho9.at_ StubE.enc).2.2) | (go_at_call 15; refine (sameTrue_any A1 c1 A2 c2 qf _ (hs8.below below_of) hs9 (by omega)).mono ?_; rintro r wa ⟨rfl, hba⟩; have la := later hba))
          go_ret
          exact ⟨rfl, below_of⟩
        · go_upto_region 22 with (go_at_call 18; refine (HFe _).mono ?_; rintro r w4 ⟨rfl, hb4⟩; have l4 := later hb4)
          refine wp_name ?_
          intro w5 hw5
          obtain ⟨B5, l5⟩ := box1 hw5
          clear hw5
          go_upto_region 23 with (go_at_call 19; refine (HBe _).mono ?_; rintro r w6 ⟨rfl, hb6⟩; have l6 := later hb6)
          refine wp_name ?_
          intro w7 hw7
          obtain ⟨B7, l7⟩ := box1 hw7
          clear hw7
          go_wp2_with (first | (go_at_call 23; refine (HOe _).mono ?_; rintro r w8 ⟨A1, c1, rfl, ho8, hb8⟩; have l8 := later hb8; have hs8 := (ho8.at_ StubE.enc).2.2) | (go_at_call 24; refine (HRe _).mono ?_; rintro r w9 ⟨A2, c2, rfl, ho9, hb9⟩; have l9 := later hb9; have hs9 := (ho9.at_ StubE.enc).2.2) | (go_at_call 15; refine (sameTrue_any A1 c1 A2 c2 qf _ (hs8.below below_of) hs9 (by omega)).mono ?_; rintro r wa ⟨rfl, hba⟩; have la := later hba))
          go_ret
          exact ⟨rfl, below_of⟩
      · cases ib
        · obtain ⟨z0, z1, z2, z3, z4, z5, z6, z7, z8, z9, z10, z11⟩ := hzz.out rfl
          go_upto_region 22 with (go_at_call 18; refine (HFe _).mono ?_; rintro r w4 ⟨rfl, hb4⟩; have l4 := later hb4)
          refine wp_name ?_
          intro w5 hw5
          obtain ⟨B5, l5⟩ := box1 hw5
          clear hw5
          go_upto_region 23 with (go_at_call 19; refine (HBe _).mono ?_; rintro r w6 ⟨rfl, hb6⟩; have l6 := later hb6)
          refine wp_name ?_
          intro w7 hw7
          obtain ⟨B7, l7⟩ := box1 hw7
          clear hw7
          go_wp2_with (first | (go_at_call 23; refine (HOe _).mono ?_; rintro r w8 ⟨A1, c1, rfl, ho8, hb8⟩; have l8 := later hb8; have hs8 := (ho8.at_ StubE.enc).2.2) | (go_at_call 24; refine (HRe _).mono ?_; rintro r w9 ⟨A2, c2, rfl, ho9, hb9⟩; have l9 := later hb9; have hs9 := (ho9.at_ StubE.enc).2.2) | (go_at_call 15; refine (sameTrue_any A1 c1 A2 c2 qf _ (hs8.below below_of) hs9 (by omega)).mono ?_; rintro r wa ⟨rfl, hba⟩; have la := later hba))
          go_ret
          exact ⟨rfl, below_of⟩
        · go_upto_region 22 with (go_at_call 18; refine (HFe _).mono ?_; rintro r w4 ⟨rfl, hb4⟩; have l4 := later hb4)
          refine wp_name ?_
          intro w5 hw5
          obtain ⟨B5, l5⟩ := box1 hw5
          clear hw5
          go_upto_region 23 with (go_at_call 19; refine (HBe _).mono ?_; rintro r w6 ⟨rfl, hb6⟩; have l6 := later hb6)
          refine wp_name ?_
          intro w7 hw7
          obtain ⟨B7, l7⟩ := box1 hw7
          clear hw7
          go_wp2_with (first | (go_at_call 23; refine (HOe _).mono ?_; rintro r w8 ⟨A1, c1, rfl, ho8, hb8⟩; have l8 := later hb8; have hs8 := (ho8.at_ StubE.enc).2.2) | (go_at_call 24; refine (HRe _).mono ?_; rintro r w9 ⟨A2, c2, rfl, ho9, hb9⟩; have l9 := later hb9; have hs9 := (ho9.at_ StubE.enc).2.2) | (go_at_call 15; refine (sameTrue_any A1 c1 A2 c2 qf _ (hs8.below below_of) hs9 (by omega)).mono ?_; rintro r wa ⟨rfl, hba⟩; have la := later hba))
          go_ret
          exact ⟨rfl, below_of⟩
end Go.Proofs.Ytgddapgdeaeggaa
