/-
  Contracts of the functions of this seat that each theorem names: what a call returns, and that it writes nothing that was there before. The conditions stand in each theorem.
-/
import Derived.Test.YtffnogjgnpbjlaaGrp3
import Derived.Test.YtffnogjgnpbjlaaGReach
set_option linter.unusedSimpArgs false
set_option linter.unusedVariables false
namespace Go.Proofs.Ytffnogjgnpbjlaa
open Go.RowKit
attribute [local go_sem] Oper.semAt_some
attribute [local go_sem ↓] run_eql_id run_neq_id
attribute [local simp] heap_drew
theorem nodeTV : ElemT Try.prog 22 56 5 56 := ElemT.mk' (z := .agg #[.int .i64 0, .int .i64 0, .int .i64 0, .int .i64 0, .slice none 0 0]) Try.underlying22 (by kernel_rfl) rfl
theorem by_final2 {F G : Prop} (h : (Unit → F) → G) (hf : F) : G := h fun _ => hf
theorem zeroInt (w : World) : (zeroValue 3).run Try.prog w = .ok (.int .i64 0) w := by kernel_rfl
set_option maxRecDepth 100000 in
set_option maxHeartbeats 40000000 in
theorem visit_any (W : World) (A : Option Addr) (c : Nat) (l : List NodeE) (roots : List IDE) (b1 b2 b3 b4 gF gI gt : Nat) (H : NodesAt W A l) (hl : l.length ≤ 10000) (hf : ∀ n ∈ l, n.fields.length ≤ 10000)
    (h1 : W.heap[b1]? = some (.cells #[.map (some gF)] 79 (0, 0))) (hF : MapFn IDE.vv NodeE.v W gF (firstE l)) : ∀ (m : Nat) (ids prog : List IDE) (iA : Option Addr) (iC : Nat) (nA : Option Addr) (nC : Nat) (x : IDE) (w : World),
    l.length - (ids.length + prog.length) ≤ m → VSt W l b1 b2 b3 b4 gI gt w ids prog iA iC nA nC → DfsI (conL l) roots ids prog → (x ∈ roots ∨ ∃ y n, prog[0]? = some y ∧ firstN (conL l) y = some n ∧ x ∈ refsOf n) →
    Calls Try.prog 69 #[x.v, .pointer (some ⟨b1, 0, none⟩), .pointer (some ⟨b2, 0, none⟩), .pointer (some ⟨b3, 0, none⟩), .pointer (some ⟨b4, 0, none⟩)] w (VPost W l roots b1 b2 b3 b4 gI gt ids prog (.slice iA ids.length iC) (.slice nA ids.length nC) x w) := by
  intro m
  induction m using Nat.strongRecOn with
  | _ m ih =>
    intro ids prog iA iC nA nC x w hm S hD hp
    have lWw : Later W w := ⟨S.lw⟩
    have BF := boxed h1
    have X2 := boxed S.h2
    have X3 := boxed S.h3
    have X4 := boxed S.h4
    have hlk : ∀ (u : World) [Later W u] (x : IDE), (Instr.lookup 79 (.map (some gF)) (.agg #[.int .i64 x.machine, .int .i64 x.serial]) true).run Try.prog u = .ok (.tuple #[(firstE l x).elim (.agg #[.int .i64 0, .int .i64 0, .int .i64 0, .int .i64 0, .slice none 0 0]) NodeE.v, .bool (firstE l x).isSome]) u :=
      fun u i x => run_look_ok keyI Try.underlying79 zeroNode (hF.later u) x
    have hlkx := fun (u : World) [Later W u] => hlk u x
    have hli : ∀ (u : World) [Later w u], (Instr.lookup 73 (.map (some gI)) (.agg #[.int .i64 x.machine, .int .i64 x.serial]) true).run Try.prog u = .ok (.tuple #[(idxM ids prog x).elim (.int .i64 0) (Value.int .i64), .bool (idxM ids prog x).isSome]) u :=
      fun u i => run_look_ok keyI Try.underlying73 zeroInt (S.hI.later u) x
    have hids := idxM_some (ids := ids) (prog := prog) (x := x)
    obtain ⟨x1, x2⟩ := x
    dsimp only [IDE.v] at hlkx hli ⊢
    clear hlk
    go_enter Try.func69, Try.ntmps69
    go_upto_region 1 with fail
    refine wp_name ?_
    intro w1 hw1
    obtain ⟨B5, l1⟩ := box1 hw1
    clear hw1
    have l11 : Later w1 w1 := Later.refl
    cases hs : idxM ids prog ⟨x1, x2⟩ with
    | some v =>
      rw [hs] at hids
      have hin := hide (of_decide_eq_true (p := (⟨x1, x2⟩ : IDE) ∈ ids ∨ (⟨x1, x2⟩ : IDE) ∈ prog) (by rw [← hids]; rfl))
      simp only [hs, Option.elim_some, Option.isSome_some] at hli
      clear hids hs
      cases hfx : firstE l ⟨x1, x2⟩ with
      | none =>
        simp only [hfx, Option.elim_none, Option.isSome_none] at hlkx
        clear hfx
        go_wp2_with fail
        go_end0
        exact ⟨rfl, ids, iA, iC, nA, nC, S.below (below_of), hD, (fun y hy => hy), (fun _ => hin.out), Only.of_below below_of, fun k hk => .inl hk⟩
      | some mm =>
        simp only [hfx, Option.elim_some, Option.isSome_some] at hlkx
        clear hfx
        go_wp2_with fail
        go_end0
        exact ⟨rfl, ids, iA, iC, nA, nC, S.below (below_of), hD, (fun y hy => hy), (fun _ => hin.out), Only.of_below below_of, fun k hk => .inl hk⟩
    | none =>
      rw [hs] at hids
      have hnin := hide (of_decide_eq_false (p := (⟨x1, x2⟩ : IDE) ∈ ids ∨ (⟨x1, x2⟩ : IDE) ∈ prog) (by rw [← hids]; rfl))
      simp only [hs, Option.elim_none, Option.isSome_none] at hli
      clear hids hs
      cases hfx : firstE l ⟨x1, x2⟩ with
      | none =>
        simp only [hfx, Option.elim_none, Option.isSome_none] at hlkx
        have hfn := hide (show firstN (conL l) ⟨x1, x2⟩ = none by rw [firstE_N, hfx]; rfl)
        clear hfx
        go_wp2_with fail
        go_end0
        exact ⟨rfl, ids, iA, iC, nA, nC, S.below (below_of), hD, (fun y hy => hy), (fun h => by rw [hfn.out] at h; cases h), Only.of_below below_of, fun k hk => .inl hk⟩
      | some mm =>
        simp only [hfx, Option.elim_some, Option.isSome_some] at hlkx
        have hfn := hide (show firstN (conL l) ⟨x1, x2⟩ = some mm.con by rw [firstE_N, hfx]; rfl)
        have hfe := hide hfx
        have hml := (firstE_some hfx).1
        have hmf := hf mm hml
        have hFd : ∀ u [Later W u], SlAt ValE.cells 4 u mm.A mm.fields := fun u j => (H.f mm hml).below j.below
        have hD1 := hide (hD.push (by rw [hfn.out]; rfl) (fun h => hnin.out (.inl h)) (fun h => hnin.out (.inr h)) hp)
        have hroom := hD1.out.room
        have hll : (conL l).length = l.length := by unfold conL; rw [List.length_map]
        rw [hll, List.length_cons] at hroom
        have HFol : ∀ u [Later W u], Calls Try.prog 70 #[mm.v] u (FolP mm.con u) := fun u i => followed_any mm u (hFd u) hmf
        clear hfx hml hf
        obtain ⟨U, hU1, hU2, hU3, hU4⟩ := run_store (ν := Int) (fv := Value.int .i64) keyI Try.underlying73 S.hI
        have hU1' := fun (u : World) [Later w u] => hU1 u ⟨x1, x2⟩ (-1)
        have hU2' := hide (fun (u : World) (i : Later w u) => hU2 u ⟨x1, x2⟩ (-1))
        dsimp only [IDE.vv] at hU1'
        obtain ⟨m1, m2, mk, mc, mA, mp, mf⟩ := mm
        dsimp only [NodeE.v] at hlkx HFol hmf hFd
        go_upto_region 4 with fail
        refine wp_name ?_
        intro w3 hw3
        have hz3 := hide (show w3.heap.size = w1.heap.size + 1 by rw [← hw3]; simp)
        obtain ⟨B6, l3⟩ := box1 hw3
        clear hw3
        have l33 : Later w3 w3 := Later.refl
        go_upto_region 5 with fail
        refine wp_name ?_
        intro w4 hw4
        have S3 := S.below (show Below w.heap.size w w3 from below_of)
        have hM4 : MapFn IDE.vv (Value.int .i64) w4 gI (idxM ids (⟨x1, x2⟩ :: prog)) := by rw [← hw4, ← idxM_push (fun h => hnin.out (.inl h))]; exact hU2'.out w3 inferInstance
        have S4 : VSt W l b1 b2 b3 b4 gI gt w4 ids (⟨x1, x2⟩ :: prog) iA iC nA nC := by rw [← hw4]; exact S3.put (by rw [hw4]; exact hM4)
        have hgI := S.hI.lt
        have B5' := boxed_putAt B5 (g := gI) (by omega) hw4
        have hz11 : w.heap.size < w1.heap.size := boxed_lt B5
        have B6' := boxed_putAt B6 (g := gI) (by omega) hw4
        have on4 : Only (VS gI gt (.slice iA ids.length iC) (.slice nA ids.length nC)) w w4 := (Only.of_below (show Below w.heap.size w w3 from below_of)).trans (Only.mono (s := fun k => k = gI) (by rw [← hw4]; exact only_putAt) (fun k _ h => .inl h))
        have hVlt := hide (show ∀ k, VS gI gt (.slice iA ids.length iC) (.slice nA ids.length nC) k → k < w.heap.size from fun k hk => S.lt hk)
        have hz43 : w4.heap.size = w3.heap.size := by rw [← hw4, putAt_size]
        have lW4 : Later W w4 := ⟨S4.lw⟩
        have l44 : Later w4 w4 := Later.refl
        have hB5 := (B5' w4).1
        have hB6 := (B6' w4).1
        clear hw4 hM4 S3 S hU1' hU2' hU1 hU2 hU3 hU4 hlkx hli X2 X3 X4 B5 B6 l3 l1
        have X2 := boxed S4.h2
        have X3 := boxed S4.h3
        have X4 := boxed S4.h4
        go_upto_region 6 with (go_at_call 70; refine (HFol _).mono ?_; rintro r w5 ⟨q, QA, QC, hq, rfl, hoq, hb5⟩; have l5 := later hb5)
        have hz45 : w4.heap.size ≤ w5.heap.size := hb5.size
        have hql : q.length ≤ 10000 := by rw [hq.out]; exact Nat.le_trans (refsOf_len _) hmf
        have h35 := hz3.out
        clear X2 X3 X4 B5' B6' HFol
        go_loopw [34] (fun iv wr => ∃ (k : Nat) (ids' : List IDE) (iA' : Option Addr) (iC' : Nat) (nA' : Option Addr) (nC' : Nat), k ≤ q.length ∧ iv = .int .i64 k ∧ VSt W l b1 b2 b3 b4 gI gt wr ids' (⟨x1, x2⟩ :: prog) iA' iC' nA' nC' ∧ Hid (DfsI (conL l) roots ids' (⟨x1, x2⟩ :: prog)) ∧ Hid (∀ y ∈ ids, y ∈ ids') ∧
          Hid (∀ j y, j < k → q[j]? = some y → (firstN (conL l) y).isSome → y ∈ ids' ∨ y ∈ (⟨x1, x2⟩ : IDE) :: prog) ∧ Only (VS gI gt (.slice iA ids.length iC) (.slice nA ids.length nC)) w5 wr ∧ Hid (∀ k, VS gI gt (.slice iA' ids'.length iC') (.slice nA' ids'.length nC') k → VS gI gt (.slice iA ids.length iC) (.slice nA ids.length nC) k ∨ w5.heap.size ≤ k)) (fun iv _ => q.length - (intOf iv).toNat)
        case atStart => exact ⟨0, ids, iA, iC, nA, nC, by omega, rfl, S4.below hb5, hD1, hide (fun _ h => h), hide (fun j y hj => by omega), Only.refl, hide (fun k hk => .inl hk)⟩
        case round =>
          obtain ⟨k, ids', iA', iC', nA', nC', hk, rfl, Sr, hDr, hsub, hdone, honr, hvs⟩ := hrel
          have hoqr := honr.own hoq (fun j e hv => by have h1 := (World.ownsRow.lt hoq _ e).1; have h2 := hVlt.out j hv; omega)
          have hB5r := honr.boxed (blk_below hB5 hb5) (fun hv => by have := hVlt.out _ hv; omega)
          have hB6r := honr.boxed (blk_below hB6 hb5) (fun hv => by have := hVlt.out _ hv; omega)
          have lWr : Later W wr := ⟨Sr.lw⟩
          have lrr : Later wr wr := Later.refl
          have X2 := boxed Sr.h2
          have X3 := boxed Sr.h3
          have X4 := boxed Sr.h4
          by_cases hlt : k < q.length
          · have hki : (k : Int) < (q.length : Int) := by omega
            obtain ⟨y, hy⟩ : ∃ y, q[k]? = some y := ⟨_, List.getElem?_eq_getElem hlt⟩
            obtain ⟨b9, o9, rfl, C1, C2⟩ := id_at ((hoqr.at_ IDE.enc).2.2) hy
            have Hy := hide hy
            have hqm := hide (show y ∈ refsOf (NodeE.con ⟨m1, m2, mk, mc, mA, mp, mf⟩) by rw [← hq.out]; exact List.mem_of_getElem? hy)
            clear hy
            obtain ⟨y1, y2⟩ := y
            dsimp only at C1 C2
            go_upto_region 8 with fail
            refine wp_name ?_
            intro w6 hw6
            obtain ⟨B9, l6⟩ := box1 hw6
            clear hw6
            have hlen : ids.length ≤ ids'.length := nodup_len (List.nodup_append.1 hD1.out.nodup).1 hsub.out
            have HV := ih (m - 1) (by omega) ids' (⟨x1, x2⟩ :: prog) iA' iC' nA' nC' ⟨y1, y2⟩ w6 (by rw [List.length_cons]; omega) (Sr.below (l6 wr).below) hDr.out (.inr ⟨⟨x1, x2⟩, _, rfl, hfn.out, hqm.out⟩)
            dsimp only [IDE.v] at HV
            have hz6 := (l6 wr).below.size
            have h56 := honr.size
            go_upto_region 9 with (go_at_call 69; refine HV.mono ?_; intro r w7 hh; obtain ⟨rfl, ids2, iA2, iC2, nA2, nC2, S7, hD7, hs7, hx7, on7, hv7⟩ := hh)
            have on67 : Only (VS gI gt (.slice iA ids.length iC) (.slice nA ids.length nC)) w5 w7 := (honr.trans (Only.of_below (l6 wr).below)).trans' on7 (fun j hj h => by
              rcases hvs.out j h with h | h
              · exact h
              · omega)
            go_wp2_with fail
            go_roundw
            case rel => exact ⟨k + 1, ids2, iA2, iC2, nA2, nC2, by omega, by go_num, S7, hide hD7, hide (fun y hy => hs7 y (hsub.out y hy)), hide (fun j y hj hjy hs => by
              by_cases e : j = k
              · subst e
                have : y = ⟨y1, y2⟩ := Option.some.inj (hjy.symm.trans Hy.out)
                subst this
                exact hx7 hs
              · rcases hdone.out j y (by omega) hjy hs with h | h
                · exact .inl (hs7 y h)
                · exact .inr h), on67, hide (fun j hj => by
              rcases hv7 j hj with h | h
              · exact hvs.out j h
              · exact .inr (by omega))⟩
            case measure => simp [intOf]; omega
          · have hkk : k = q.length := by omega
            subst hkk
            have hDp := hide (hDr.out.pop hfn.out (fun y hy hs => by
              obtain ⟨j, hj⟩ := List.getElem?_of_mem (show y ∈ q by rw [hq.out]; exact hy)
              exact hdone.out j y (get_lt hj) hj hs))
            have hnd := hDr.out.nodup
            have hx1 := hide (show (⟨x1, x2⟩ : IDE) ∉ ids' from fun h => (List.nodup_append.1 hnd).2.2 _ h _ List.mem_cons_self rfl)
            have hx2 := hide (show (⟨x1, x2⟩ : IDE) ∉ prog from (List.nodup_cons.1 (List.nodup_append.1 hnd).2.1).1)
            have hil : ids'.length ≤ 10000 := by have := hDr.out.room; omega
            clear hnd hdone
            obtain ⟨U, hU1, hU2, hU3, hU4⟩ := run_store (ν := Int) (fv := Value.int .i64) keyI Try.underlying73 Sr.hI
            have hU1' := fun (u : World) [Later wr u] => hU1 u ⟨x1, x2⟩ (ids'.length : Int)
            have hU2' := hide (fun (u : World) (i : Later wr u) => hU2 u ⟨x1, x2⟩ (ids'.length : Int))
            have hU3' := hide (fun (u : World) (i : Later wr u) => hU3 u ⟨x1, x2⟩ (ids'.length : Int))
            dsimp only [IDE.vv] at hU1'
            clear hU1 hU2 hU3 hU4
            go_upto_region 10 with fail
            have HC : ∀ u : World, (∀ a v, wr.cell? a = some v → u.cell? a = some v) → u.cell? ⟨b2, 0, none⟩ = some (.map (some gI)) ∧ u.cell? ⟨b4, 0, none⟩ = some (.pointer (some ⟨gt, 0, none⟩)) ∧ u.cell? ⟨w.heap.size, 0, none⟩ = some (.int .i64 x1) ∧ u.cell? ⟨w.heap.size, 1, none⟩ = some (.int .i64 x2) ∧ u.cell? ⟨gt, 0, none⟩ = some (.slice iA' ids'.length iC') := fun u hu =>
              ⟨hu _ _ (by have := ((X2 wr).2 0).1; simpa using this), hu _ _ (by have := ((X4 wr).2 0).1; simpa using this), hu _ _ (by have := ((boxed hB5r wr).2 0).1; simpa using this), hu _ _ (by have := ((boxed hB5r wr).2 1).1; simpa using this), hu _ _ (by have := ((boxed Sr.ht wr).2 0).1; simpa using this)⟩
            refine wp_region_held_drew (S := fun w' => ∀ a v, wr.cell? a = some v → w'.cell? a = some v) (by kernel_rfl) (fun a v h => h) (fun hHeld => ?_)
            refine wpAnyH_take (i := 0) (oi := _) (v := ?_) rfl (by kernel_rfl) (by kernel_rfl) (by kernel_rfl) (fun _ _ _ h => h) (Or.inl ⟨by rfl, ?_⟩) (by assumption) ?_
            rotate_left 1
            · (intro wy hSw; (try dsimp only at hSw); obtain ⟨s1, s2, s3, s4, s5⟩ := HC wy hSw; go_simp; try with_reducible rfl)
            (try simp only [Act.put, List.getElem_toArray, List.getElem_cons_succ, List.getElem_cons_zero, List.setIfInBounds_toArray, List.set_cons_zero, List.set_cons_succ])
            refine wpAnyH_take (i := 1) (oi := _) (v := ?_) rfl (by kernel_rfl) (by kernel_rfl) (by kernel_rfl) (fun _ _ _ h => h) (Or.inl ⟨by rfl, ?_⟩) (by assumption) ?_
            rotate_left 1
            · (intro wy hSw; (try dsimp only at hSw); obtain ⟨s1, s2, s3, s4, s5⟩ := HC wy hSw; go_simp; try with_reducible rfl)
            (try simp only [Act.put, List.getElem_toArray, List.getElem_cons_succ, List.getElem_cons_zero, List.setIfInBounds_toArray, List.set_cons_zero, List.set_cons_succ])
            refine wpAnyH_take (i := 2) (oi := _) (v := ?_) rfl (by kernel_rfl) (by kernel_rfl) (by kernel_rfl) (fun _ _ _ h => h) (Or.inl ⟨by rfl, ?_⟩) (by assumption) ?_
            rotate_left 1
            · (intro wy hSw; (try dsimp only at hSw); obtain ⟨s1, s2, s3, s4, s5⟩ := HC wy hSw; go_simp; try with_reducible rfl)
            (try simp only [Act.put, List.getElem_toArray, List.getElem_cons_succ, List.getElem_cons_zero, List.setIfInBounds_toArray, List.set_cons_zero, List.set_cons_succ])
            refine wpAnyH_take (i := 3) (oi := _) (v := ?_) rfl (by kernel_rfl) (by kernel_rfl) (by kernel_rfl) (fun _ _ _ h => h) (Or.inl ⟨by rfl, ?_⟩) (by assumption) ?_
            rotate_left 1
            · (intro wy hSw; (try dsimp only at hSw); obtain ⟨s1, s2, s3, s4, s5⟩ := HC wy hSw; go_simp; try with_reducible rfl)
            (try simp only [Act.put, List.getElem_toArray, List.getElem_cons_succ, List.getElem_cons_zero, List.setIfInBounds_toArray, List.set_cons_zero, List.set_cons_succ])
            refine wpAnyH_take (i := 4) (oi := _) (v := ?_) rfl (by kernel_rfl) (by kernel_rfl) (by kernel_rfl) (fun _ _ _ h => h) (Or.inl ⟨by rfl, ?_⟩) (by assumption) ?_
            rotate_left 1
            · (intro wy hSw; (try dsimp only at hSw); obtain ⟨s1, s2, s3, s4, s5⟩ := HC wy hSw; go_simp; try with_reducible rfl)
            (try simp only [Act.put, List.getElem_toArray, List.getElem_cons_succ, List.getElem_cons_zero, List.setIfInBounds_toArray, List.set_cons_zero, List.set_cons_succ])
            refine wpAnyH_take (i := 5) (oi := _) (v := ?_) rfl (by kernel_rfl) (by kernel_rfl) (by kernel_rfl) (fun _ _ _ h => h) (Or.inl ⟨by rfl, ?_⟩) (by assumption) ?_
            rotate_left 1
            · (intro wy hSw; (try dsimp only at hSw); obtain ⟨s1, s2, s3, s4, s5⟩ := HC wy hSw; go_simp; try with_reducible rfl)
            (try simp only [Act.put, List.getElem_toArray, List.getElem_cons_succ, List.getElem_cons_zero, List.setIfInBounds_toArray, List.set_cons_zero, List.set_cons_succ])
            refine wpAnyH_take (i := 6) (oi := _) (v := ?_) rfl (by kernel_rfl) (by kernel_rfl) (by kernel_rfl) (fun _ _ _ h => h) (Or.inl ⟨by rfl, ?_⟩) (by assumption) ?_
            rotate_left 1
            · (intro wy hSw; (try dsimp only at hSw); obtain ⟨s1, s2, s3, s4, s5⟩ := HC wy hSw; go_simp; try with_reducible rfl)
            (try simp only [Act.put, List.getElem_toArray, List.getElem_cons_succ, List.getElem_cons_zero, List.setIfInBounds_toArray, List.set_cons_zero, List.set_cons_succ])
            refine wpAnyH_ready (rs := [7]) (by kernel_rfl) (by simp) ?_
            refine AllReadyH.cons (o := _) rfl ?_ AllReadyH.nil
            intro K9 hK9
            go_simp
            refine hK9.out _ _ (by exact fun a v h => (hU3'.out _ inferInstance a).trans (Later.cell h _)) (fun hHeld => ?_)
            clear hK9 K9
            (try simp only [Act.put])
            refine wpAnyH_done (by kernel_rfl) ?_ _
            go_upto_region 11 with fail
            refine wp_name ?_
            intro w8 hw8
            have Sd := Sr.below (show Below wr.heap.size wr wr.drew from below_of)
            obtain ⟨lw8, e2, e3, e4, et, oi8, on8⟩ := Sd.put2 (U ⟨x1, x2⟩ (ids'.length : Int))
            have M8 : MapFn IDE.vv (Value.int .i64) w8 gI (idxM (ids' ++ [⟨x1, x2⟩]) prog) := by rw [← hw8, ← idxM_pop hx1.out hx2.out]; exact hU2'.out wr.drew inferInstance
            have hz8 : w8.heap.size = wr.heap.size := by rw [← hw8, putAt_size]; simp
            have onr8 : Only (fun k => k = gI) wr w8 := (Only.of_below (show Below wr.heap.size wr wr.drew from below_of)).trans (by rw [← hw8]; exact only_putAt)
            rw [hw8] at lw8 e2 e3 e4 et oi8 on8
            have h28 := e2.trans Sd.h2
            have h38 := e3.trans Sd.h3
            have h48 := e4.trans Sd.h4
            have ht8 := et.trans Sd.ht
            have hgIr := Sr.hI.lt
            have hB58 := onr8.boxed hB5r (by omega)
            have hB68 := onr8.boxed hB6r (by omega)
            have on58 : Only (VS gI gt (.slice iA ids.length iC) (.slice nA ids.length nC)) w5 w8 := honr.trans (onr8.mono fun k _ h => .inl h)
            have hzt := Sr.zt
            have hvs' := hide (show ∀ k, (Value.slice iA' ids'.length iC').ownBlock = some k ∨ (Value.slice nA' ids'.length nC').ownBlock = some k → VS gI gt (.slice iA ids.length iC) (.slice nA ids.length nC) k ∨ w5.heap.size ≤ k from fun k hk => hvs.out k (hk.elim (fun h => .inr (.inr (.inl h))) (fun h => .inr (.inr (.inr h)))))
            have hoff : ∀ k, k < w5.heap.size → ¬ VS gI gt (.slice iA ids.length iC) (.slice nA ids.length nC) k → ¬ (k = gt ∨ (Value.slice iA' ids'.length iC').ownBlock = some k ∨ (Value.slice nA' ids'.length nC').ownBlock = some k) := fun k hk hn h => by
              rcases h with h | h
              · exact hn (.inr (.inl h))
              · rcases hvs'.out k h with h | h
                · exact hn h
                · omega
            have hn4 : ¬ (b4 = gt ∨ (Value.slice iA' ids'.length iC').ownBlock = some b4 ∨ (Value.slice nA' ids'.length nC').ownBlock = some b4) := fun h => Sr.ne Sr.h4 (by decide) (by decide) (by decide) (.inr h)
            have hn2 : ¬ (b2 = gt ∨ (Value.slice iA' ids'.length iC').ownBlock = some b2 ∨ (Value.slice nA' ids'.length nC').ownBlock = some b2) := fun h => Sr.ne Sr.h2 (by decide) (by decide) (by decide) (.inr h)
            have hn3 : ¬ (b3 = gt ∨ (Value.slice iA' ids'.length iC').ownBlock = some b3 ∨ (Value.slice nA' ids'.length nC').ownBlock = some b3) := fun h => Sr.ne Sr.h3 (by decide) (by decide) (by decide) (.inr h)
            have hnt : ¬ ((Value.slice iA' ids'.length iC').ownBlock = some gt ∨ (Value.slice nA' ids'.length nC').ownBlock = some gt) := fun h => h.elim (own_off Sr.oi Sr.ht (by decide)) (own_off Sr.on Sr.ht (by decide))
            have hnI : ¬ (gI = gt ∨ (Value.slice iA' ids'.length iC').ownBlock = some gI ∨ (Value.slice nA' ids'.length nC').ownBlock = some gI) := by
              obtain ⟨es, ck, hmI⟩ := mapFn_obj Sr.hI
              rintro (h | h | h)
              · have := Sr.ht; rw [← h, hmI] at this; cases this
              · obtain ⟨cs, hc⟩ := own_type Sr.oi h; rw [hmI] at hc; cases hc
              · obtain ⟨cs, hc⟩ := own_type Sr.on h; rw [hmI] at hc; cases hc
            have hid5 := hoff w.heap.size (by omega) (fun h => by have := hVlt.out _ h; omega)
            have hid6 := hoff w1.heap.size (by omega) (fun h => by have := hVlt.out _ h; omega)
            clear hoff hU1' hU2' hU3' HC e2 e3 e4 et Sd hw8 X2 X3 X4 hHeld onr8
            have HS : ∀ z, Only (fun k => k = gt ∨ (Value.slice iA' ids'.length iC').ownBlock = some k ∨ (Value.slice nA' ids'.length nC').ownBlock = some k) w8 z → (z.cell? ⟨b4, 0, none⟩ = some (.pointer (some ⟨gt, 0, none⟩)) ∧ z.cell? ⟨w.heap.size, 0, none⟩ = some (.int .i64 x1) ∧ z.cell? ⟨w.heap.size, 1, none⟩ = some (.int .i64 x2) ∧
                z.cell? ⟨w1.heap.size, 0, none⟩ = some (.int .i64 m1) ∧ z.cell? ⟨w1.heap.size, 1, none⟩ = some (.int .i64 m2) ∧ z.cell? ⟨w1.heap.size, 2, none⟩ = some (.int .i64 mk) ∧ z.cell? ⟨w1.heap.size, 3, none⟩ = some (.int .i64 mc) ∧ z.cell? ⟨w1.heap.size, 4, none⟩ = some (.slice mA mf.length mp)) := fun z hz => by
              have a4 := boxed (hz.boxed h48 hn4) z
              have a5 := boxed (hz.boxed hB58 hid5) z
              have a6 := boxed (hz.boxed hB68 hid6) z
              refine ⟨?_, ?_, ?_, ?_, ?_, ?_, ?_, ?_⟩
              · simpa using (a4.2 0).1
              · simpa using (a5.2 0).1
              · simpa using (a5.2 1).1
              · simpa using (a6.2 0).1
              · simpa using (a6.2 1).1
              · simpa using (a6.2 2).1
              · simpa using (a6.2 3).1
              · simpa using (a6.2 4).1
            have HT : ∀ z, Only (fun k => (Value.slice iA' ids'.length iC').ownBlock = some k ∨ (Value.slice nA' ids'.length nC').ownBlock = some k) w8 z → z.cell? ⟨gt, 0, none⟩ = some (.slice iA' ids'.length iC') ∧ z.cell? ⟨gt, 1, none⟩ = some (.slice nA' ids'.length nC') := fun z hz => by
              have a := boxed (hz.boxed ht8 hnt) z
              exact ⟨by simpa using (a.2 0).1, by simpa using (a.2 1).1⟩
            have hw8z := lw8.size
            refine wp_region_held_drew (S := fun z => z.cell? ⟨b4, 0, none⟩ = some (.pointer (some ⟨gt, 0, none⟩)) ∧ z.cell? ⟨w.heap.size, 0, none⟩ = some (.int .i64 x1) ∧ z.cell? ⟨w.heap.size, 1, none⟩ = some (.int .i64 x2) ∧
                z.cell? ⟨w1.heap.size, 0, none⟩ = some (.int .i64 m1) ∧ z.cell? ⟨w1.heap.size, 1, none⟩ = some (.int .i64 m2) ∧ z.cell? ⟨w1.heap.size, 2, none⟩ = some (.int .i64 mk) ∧ z.cell? ⟨w1.heap.size, 3, none⟩ = some (.int .i64 mc) ∧ z.cell? ⟨w1.heap.size, 4, none⟩ = some (.slice mA mf.length mp)) (by kernel_rfl) (HS _ (Only.refl.drew)) (fun hHeld => ?_)
            have hon : Only (fun k => (Value.slice iA' ids'.length iC').ownBlock = some k ∨ (Value.slice nA' ids'.length nC').ownBlock = some k) w8 w8.drew := Only.refl.drew
            have oi := oi8.below (show Below w8.heap.size w8 w8.drew from (Below.refl _ _).drew)
            have on := on8.below (show Below w8.heap.size w8 w8.drew from (Below.refl _ _).drew)
            have hzw : W.heap.size ≤ w8.drew.heap.size := by rw [heap_drew]; exact hw8z
            obtain ⟨wz, hwz⟩ : ∃ z, z = w8.drew := ⟨_, rfl⟩
            rw [← hwz] at hHeld hon oi on hzw ⊢
            clear hwz oi8 on8
            refine wpAnyH_take (i := 0) (oi := _) (v := ?_) rfl (by kernel_rfl) (by kernel_rfl) (by kernel_rfl) (fun _ _ _ h => h) (Or.inl ⟨by rfl, ?_⟩) (by assumption) ?_
            rotate_left 1
            · (intro wy hSw; (try dsimp only at hSw); obtain ⟨s1, s2, s3, s4, s5, s6, s7, s8⟩ := hSw; go_simp; try with_reducible rfl)
            (try simp only [Act.put, List.getElem_toArray, List.getElem_cons_succ, List.getElem_cons_zero, List.setIfInBounds_toArray, List.set_cons_zero, List.set_cons_succ])
            refine wpAnyH_take (i := 1) (oi := _) (v := ?_) rfl (by kernel_rfl) (by kernel_rfl) (by kernel_rfl) (fun _ _ _ h => h) (Or.inl ⟨by rfl, ?_⟩) (by assumption) ?_
            rotate_left 1
            · (intro wy hSw; (try dsimp only at hSw); obtain ⟨s1, s2, s3, s4, s5, s6, s7, s8⟩ := hSw; go_simp; try with_reducible rfl)
            (try simp only [Act.put, List.getElem_toArray, List.getElem_cons_succ, List.getElem_cons_zero, List.setIfInBounds_toArray, List.set_cons_zero, List.set_cons_succ])
            refine wpAnyH_take (i := 2) (oi := _) (v := ?_) rfl (by kernel_rfl) (by kernel_rfl) (by kernel_rfl) (fun _ _ _ h => h) (Or.inl ⟨by rfl, ?_⟩) (by assumption) ?_
            rotate_left 1
            · (intro wy hSw; (try dsimp only at hSw); obtain ⟨s1, s2, s3, s4, s5, s6, s7, s8⟩ := hSw; go_simp; try with_reducible rfl)
            (try simp only [Act.put, List.getElem_toArray, List.getElem_cons_succ, List.getElem_cons_zero, List.setIfInBounds_toArray, List.set_cons_zero, List.set_cons_succ])
            refine wpAnyH_take (i := 3) (oi := _) (v := ?_) rfl (by kernel_rfl) (by kernel_rfl) (by kernel_rfl) (fun _ _ _ h => h) (Or.inl ⟨by rfl, ?_⟩) (by assumption) ?_
            rotate_left 1
            · (intro wy hSw; (try dsimp only at hSw); obtain ⟨s1, s2, s3, s4, s5, s6, s7, s8⟩ := hSw; go_simp; try with_reducible rfl)
            (try simp only [Act.put, List.getElem_toArray, List.getElem_cons_succ, List.getElem_cons_zero, List.setIfInBounds_toArray, List.set_cons_zero, List.set_cons_succ])
            refine wpAnyH_take (i := 4) (oi := _) (v := ?_) rfl (by kernel_rfl) (by kernel_rfl) (by kernel_rfl) (fun _ _ _ h => h) (Or.inl ⟨by rfl, ?_⟩) (by assumption) ?_
            rotate_left 1
            · (intro wy hSw; (try dsimp only at hSw); obtain ⟨s1, s2, s3, s4, s5, s6, s7, s8⟩ := hSw; go_simp; try with_reducible rfl)
            (try simp only [Act.put, List.getElem_toArray, List.getElem_cons_succ, List.getElem_cons_zero, List.setIfInBounds_toArray, List.set_cons_zero, List.set_cons_succ])
            refine wpAnyH_take (i := 6) (oi := _) (v := ?_) rfl (by kernel_rfl) (by kernel_rfl) (by kernel_rfl) (fun _ _ _ h => h) (Or.inl ⟨by rfl, ?_⟩) (by assumption) ?_
            rotate_left 1
            · (intro wy hSw; (try dsimp only at hSw); obtain ⟨s1, s2, s3, s4, s5, s6, s7, s8⟩ := hSw; go_simp; try with_reducible rfl)
            (try simp only [Act.put, List.getElem_toArray, List.getElem_cons_succ, List.getElem_cons_zero, List.setIfInBounds_toArray, List.set_cons_zero, List.set_cons_succ])
            refine wpAnyH_take (i := 9) (oi := _) (v := ?_) rfl (by kernel_rfl) (by kernel_rfl) (by kernel_rfl) (fun _ _ _ h => h) (Or.inl ⟨by rfl, ?_⟩) (by assumption) ?_
            rotate_left 1
            · (intro wy hSw; (try dsimp only at hSw); obtain ⟨s1, s2, s3, s4, s5, s6, s7, s8⟩ := hSw; go_simp; try with_reducible rfl)
            (try simp only [Act.put, List.getElem_toArray, List.getElem_cons_succ, List.getElem_cons_zero, List.setIfInBounds_toArray, List.set_cons_zero, List.set_cons_succ])
            refine wpAnyH_take (i := 10) (oi := _) (v := ?_) rfl (by kernel_rfl) (by kernel_rfl) (by kernel_rfl) (fun _ _ _ h => h) (Or.inl ⟨by rfl, ?_⟩) (by assumption) ?_
            rotate_left 1
            · (intro wy hSw; (try dsimp only at hSw); obtain ⟨s1, s2, s3, s4, s5, s6, s7, s8⟩ := hSw; go_simp; try with_reducible rfl)
            (try simp only [Act.put, List.getElem_toArray, List.getElem_cons_succ, List.getElem_cons_zero, List.setIfInBounds_toArray, List.set_cons_zero, List.set_cons_succ])
            refine wpAnyH_take (i := 11) (oi := _) (v := ?_) rfl (by kernel_rfl) (by kernel_rfl) (by kernel_rfl) (fun _ _ _ h => h) (Or.inl ⟨by rfl, ?_⟩) (by assumption) ?_
            rotate_left 1
            · (intro wy hSw; (try dsimp only at hSw); obtain ⟨s1, s2, s3, s4, s5, s6, s7, s8⟩ := hSw; go_simp; try with_reducible rfl)
            (try simp only [Act.put, List.getElem_toArray, List.getElem_cons_succ, List.getElem_cons_zero, List.setIfInBounds_toArray, List.set_cons_zero, List.set_cons_succ])
            refine wpAnyH_take (i := 13) (oi := _) (v := ?_) rfl (by kernel_rfl) (by kernel_rfl) (by kernel_rfl) (fun _ _ _ h => h) (Or.inl ⟨by rfl, ?_⟩) (by assumption) ?_
            rotate_left 1
            · (intro wy hSw; (try dsimp only at hSw); obtain ⟨s1, s2, s3, s4, s5, s6, s7, s8⟩ := hSw; go_simp; try with_reducible rfl)
            (try simp only [Act.put, List.getElem_toArray, List.getElem_cons_succ, List.getElem_cons_zero, List.setIfInBounds_toArray, List.set_cons_zero, List.set_cons_succ])
            apply by_final2
            · intro final
              refine wpAnyH_ready (rs := [5, 7, 12, 14]) (by kernel_rfl) (by simp) ?_
              refine AllReadyH.cons (o := _) rfl ?_ (AllReadyH.cons (o := _) rfl ?_ (AllReadyH.cons (o := _) rfl ?_ (AllReadyH.cons (o := _) rfl ?_ (AllReadyH.nil))))
              · intro K9 hK9
                obtain ⟨t0, t1⟩ := HT _ hon
                go_simp
                clear t0 t1
                refine hK9.out _ _ (HS _ (hon.mono fun k _ h => .inr h)) (fun hHeld => ?_)
                clear hK9 K9
                (try simp only [Act.put, List.getElem_toArray, List.getElem_cons_succ, List.getElem_cons_zero, List.setIfInBounds_toArray, List.set_cons_zero, List.set_cons_succ])
                refine wpAnyH_ready (rs := [7, 12, 14]) (by kernel_rfl) (by simp) ?_
                refine AllReadyH.cons (o := _) rfl ?_ (AllReadyH.cons (o := _) rfl ?_ (AllReadyH.cons (o := _) rfl ?_ (AllReadyH.nil)))
                · intro K9 hK9
                  go_simp
                  refine hK9.out _ _ (HS _ ((hon.alloc _).mono fun k _ h => .inr h)) (fun hHeld => ?_)
                  clear hK9 K9
                  (try simp only [Act.put, List.getElem_toArray, List.getElem_cons_succ, List.getElem_cons_zero, List.setIfInBounds_toArray, List.set_cons_zero, List.set_cons_succ])
                  obtain ⟨g7, hg⟩ : ∃ g, g = wz.heap.size := ⟨_, rfl⟩
                  obtain ⟨wn, hwn⟩ : ∃ x, x = wz.alloc (.cells #[.int .i64 x1, .int .i64 x2] 46 (0, 0)) := ⟨_, rfl⟩
                  have k7 : wn.heap[g7]? = some (.cells #[.int .i64 x1, .int .i64 x2] 46 (0, 0)) := by rw [hwn, hg]; exact heap_alloc_new _ _
                  have hbn : Below wz.heap.size wz wn := by rw [hwn]; exact (by repeat (first | with_reducible exact Below.refl _ _ | (with_reducible refine Below.drew ?_) | (with_reducible refine below_drewN ?_ _) | (with_reducible refine Below.alloc ?_ ?_ _; rotate_left; (first | omega | (simp <;> omega))) | (with_reducible refine Below.setCell ?_ ?_ _; rotate_left; (first | omega | (simp <;> omega)))))
                  rw [← hwn, ← hg]
                  clear hwn hg hHeld
                  replace hon := hon.trans (Only.of_below hbn)
                  replace oi := oi.below hbn
                  replace on := on.below hbn
                  replace hzw := Nat.le_trans hzw hbn.size
                  (try replace k14 := blk_below k14 hbn)
                  clear hbn
                  obtain ⟨wz, rfl⟩ : ∃ x, x = wn := ⟨_, rfl⟩
                  have hHeld := HS _ (hon.mono fun k _ h => .inr h)
                  refine wpAnyH_ready (rs := [8, 12, 14]) (by kernel_rfl) (by simp) ?_
                  refine AllReadyH.cons (o := _) rfl ?_ (AllReadyH.cons (o := _) rfl ?_ (AllReadyH.cons (o := _) rfl ?_ (AllReadyH.nil)))
                  · intro K9 hK9
                    refine step_app2 rfl (.tmp 54) (.tmp 56) (by rfl) IDE.enc idT _ _ [⟨x1, x2⟩] ids' (.slice iA' ids'.length iC') (by rfl) (by rfl) (m := 1) (n := ids'.length + 1) rfl rfl oi (blk_slAt IDE.enc (fr := (0, 0)) (e := 46) k7 [⟨x1, x2⟩] rfl) (by omega) (by unfold maxLen; omega) hzw ?_
                    intro A8 c8 wn ho8 hm8 hst8
                    have hv8 := own_new hst8.2 hon.size
                    have on' := own_grownOwn oi hst8.1 on (by decide)
                    (try replace k14 := heap_grownOwn oi hst8.1 k14 (by decide))
                    replace hzw := Nat.le_trans hzw (grown_size hst8.1)
                    replace hon := hon.trans' (only_grown hst8.1) (fun k _ h => .inl h)
                    clear oi on k7 hst8
                    have oi := ho8
                    have on := on'
                    clear ho8 on'
                    refine hK9.out _ _ (HS _ (hon.mono fun k _ h => .inr h)) (fun hHeld => ?_)
                    clear hK9 K9
                    (try simp only [Act.put, List.getElem_toArray, List.getElem_cons_succ, List.getElem_cons_zero, List.setIfInBounds_toArray, List.set_cons_zero, List.set_cons_succ])
                    obtain ⟨wz, rfl⟩ : ∃ x, x = wn := ⟨_, rfl⟩
                    refine wpAnyH_ready (rs := [12, 14]) (by kernel_rfl) (by simp) ?_
                    refine AllReadyH.cons (o := _) rfl ?_ (AllReadyH.cons (o := _) rfl ?_ (AllReadyH.nil))
                    · intro K9 hK9
                      obtain ⟨t0, t1⟩ := HT _ hon
                      go_simp
                      clear t0 t1
                      refine hK9.out _ _ (HS _ (hon.mono fun k _ h => .inr h)) (fun hHeld => ?_)
                      clear hK9 K9
                      (try simp only [Act.put, List.getElem_toArray, List.getElem_cons_succ, List.getElem_cons_zero, List.setIfInBounds_toArray, List.set_cons_zero, List.set_cons_succ])
                      refine wpAnyH_ready (rs := [14]) (by kernel_rfl) (by simp) ?_
                      refine AllReadyH.cons (o := _) rfl ?_ AllReadyH.nil
                      intro K9 hK9
                      go_simp
                      refine hK9.out _ _ (HS _ ((hon.alloc _).mono fun k _ h => .inr h)) (fun hHeld => ?_)
                      clear hK9 K9
                      (try simp only [Act.put, List.getElem_toArray, List.getElem_cons_succ, List.getElem_cons_zero, List.setIfInBounds_toArray, List.set_cons_zero, List.set_cons_succ])
                      obtain ⟨g14, hg⟩ : ∃ g, g = wz.heap.size := ⟨_, rfl⟩
                      obtain ⟨wn, hwn⟩ : ∃ x, x = wz.alloc (.cells #[.int .i64 m1, .int .i64 m2, .int .i64 mk, .int .i64 mc, .slice mA mf.length mp] 56 (0, 0)) := ⟨_, rfl⟩
                      have k14 : wn.heap[g14]? = some (.cells #[.int .i64 m1, .int .i64 m2, .int .i64 mk, .int .i64 mc, .slice mA mf.length mp] 56 (0, 0)) := by rw [hwn, hg]; exact heap_alloc_new _ _
                      have hbn : Below wz.heap.size wz wn := by rw [hwn]; exact (by repeat (first | with_reducible exact Below.refl _ _ | (with_reducible refine Below.drew ?_) | (with_reducible refine below_drewN ?_ _) | (with_reducible refine Below.alloc ?_ ?_ _; rotate_left; (first | omega | (simp <;> omega))) | (with_reducible refine Below.setCell ?_ ?_ _; rotate_left; (first | omega | (simp <;> omega)))))
                      rw [← hwn, ← hg]
                      clear hwn hg hHeld
                      replace hon := hon.trans (Only.of_below hbn)
                      replace oi := oi.below hbn
                      replace on := on.below hbn
                      replace hzw := Nat.le_trans hzw hbn.size
                      (try replace k7 := blk_below k7 hbn)
                      clear hbn
                      obtain ⟨wz, rfl⟩ : ∃ x, x = wn := ⟨_, rfl⟩
                      have hHeld := HS _ (hon.mono fun k _ h => .inr h)
                      refine wpAnyH_ready (rs := [15]) (by kernel_rfl) (by simp) ?_
                      refine AllReadyH.cons (o := _) rfl ?_ AllReadyH.nil
                      intro K9 hK9
                      refine step_app2 rfl (.tmp 61) (.tmp 63) (by rfl) NodeE.enc nodeTV _ _ [(⟨m1, m2, mk, mc, mA, mp, mf⟩ : NodeE)] (nodesE l ids') (.slice nA' ids'.length nC') (by rfl) (by rfl) (m := 1) (n := ids'.length + 1) rfl (by rw [nodesE_len]) on (blk_slAt NodeE.enc (fr := (0, 0)) (e := 56) k14 [(⟨m1, m2, mk, mc, mA, mp, mf⟩ : NodeE)] rfl) (by omega) (by unfold maxLen; omega) hzw ?_
                      intro A15 c15 wn ho15 hm15 hst15
                      have hv15 := own_new hst15.2 hon.size
                      have oi' := own_grownOwn on hst15.1 oi (by decide)
                      replace hzw := Nat.le_trans hzw (grown_size hst15.1)
                      replace hon := hon.trans' (only_grown hst15.1) (fun k _ h => .inr h)
                      clear oi on k14 hst15
                      have on := ho15
                      have oi := oi'
                      clear ho15 oi'
                      refine hK9.out _ _ (HS _ (hon.mono fun k _ h => .inr h)) (fun hHeld => ?_)
                      clear hK9 K9
                      (try simp only [Act.put, List.getElem_toArray, List.getElem_cons_succ, List.getElem_cons_zero, List.setIfInBounds_toArray, List.set_cons_zero, List.set_cons_succ])
                      obtain ⟨wz, rfl⟩ : ∃ x, x = wn := ⟨_, rfl⟩
                      refine wpAnyH_cast (l' := #[true, true, true, true, true, true, true, true, true, true, true, true, true, true, true, true, false, false, false, false, false, false]) (by kernel_rfl) ?_
                      clear hHeld hm8 hm15
                      revert hv15
                      revert hv8
                      revert hzw
                      revert on
                      revert oi
                      revert hon
                      revert wz
                      revert c15
                      revert A15
                      revert c8
                      revert A8
                      revert g14
                      revert g7
                      exact final ()
                    · intro K9 hK9
                      go_simp
                      refine hK9.out _ _ (HS _ ((hon.alloc _).mono fun k _ h => .inr h)) (fun hHeld => ?_)
                      clear hK9 K9
                      (try simp only [Act.put, List.getElem_toArray, List.getElem_cons_succ, List.getElem_cons_zero, List.setIfInBounds_toArray, List.set_cons_zero, List.set_cons_succ])
                      obtain ⟨g14, hg⟩ : ∃ g, g = wz.heap.size := ⟨_, rfl⟩
                      obtain ⟨wn, hwn⟩ : ∃ x, x = wz.alloc (.cells #[.int .i64 m1, .int .i64 m2, .int .i64 mk, .int .i64 mc, .slice mA mf.length mp] 56 (0, 0)) := ⟨_, rfl⟩
                      have k14 : wn.heap[g14]? = some (.cells #[.int .i64 m1, .int .i64 m2, .int .i64 mk, .int .i64 mc, .slice mA mf.length mp] 56 (0, 0)) := by rw [hwn, hg]; exact heap_alloc_new _ _
                      have hbn : Below wz.heap.size wz wn := by rw [hwn]; exact (by repeat (first | with_reducible exact Below.refl _ _ | (with_reducible refine Below.drew ?_) | (with_reducible refine below_drewN ?_ _) | (with_reducible refine Below.alloc ?_ ?_ _; rotate_left; (first | omega | (simp <;> omega))) | (with_reducible refine Below.setCell ?_ ?_ _; rotate_left; (first | omega | (simp <;> omega)))))
                      rw [← hwn, ← hg]
                      clear hwn hg hHeld
                      replace hon := hon.trans (Only.of_below hbn)
                      replace oi := oi.below hbn
                      replace on := on.below hbn
                      replace hzw := Nat.le_trans hzw hbn.size
                      (try replace k7 := blk_below k7 hbn)
                      clear hbn
                      obtain ⟨wz, rfl⟩ : ∃ x, x = wn := ⟨_, rfl⟩
                      have hHeld := HS _ (hon.mono fun k _ h => .inr h)
                      refine wpAnyH_ready (rs := [12]) (by kernel_rfl) (by simp) ?_
                      refine AllReadyH.cons (o := _) rfl ?_ AllReadyH.nil
                      intro K9 hK9
                      obtain ⟨t0, t1⟩ := HT _ hon
                      go_simp
                      clear t0 t1
                      refine hK9.out _ _ (HS _ (hon.mono fun k _ h => .inr h)) (fun hHeld => ?_)
                      clear hK9 K9
                      (try simp only [Act.put, List.getElem_toArray, List.getElem_cons_succ, List.getElem_cons_zero, List.setIfInBounds_toArray, List.set_cons_zero, List.set_cons_succ])
                      refine wpAnyH_ready (rs := [15]) (by kernel_rfl) (by simp) ?_
                      refine AllReadyH.cons (o := _) rfl ?_ AllReadyH.nil
                      intro K9 hK9
                      refine step_app2 rfl (.tmp 61) (.tmp 63) (by rfl) NodeE.enc nodeTV _ _ [(⟨m1, m2, mk, mc, mA, mp, mf⟩ : NodeE)] (nodesE l ids') (.slice nA' ids'.length nC') (by rfl) (by rfl) (m := 1) (n := ids'.length + 1) rfl (by rw [nodesE_len]) on (blk_slAt NodeE.enc (fr := (0, 0)) (e := 56) k14 [(⟨m1, m2, mk, mc, mA, mp, mf⟩ : NodeE)] rfl) (by omega) (by unfold maxLen; omega) hzw ?_
                      intro A15 c15 wn ho15 hm15 hst15
                      have hv15 := own_new hst15.2 hon.size
                      have oi' := own_grownOwn on hst15.1 oi (by decide)
                      replace hzw := Nat.le_trans hzw (grown_size hst15.1)
                      replace hon := hon.trans' (only_grown hst15.1) (fun k _ h => .inr h)
                      clear oi on k14 hst15
                      have on := ho15
                      have oi := oi'
                      clear ho15 oi'
                      refine hK9.out _ _ (HS _ (hon.mono fun k _ h => .inr h)) (fun hHeld => ?_)
                      clear hK9 K9
                      (try simp only [Act.put, List.getElem_toArray, List.getElem_cons_succ, List.getElem_cons_zero, List.setIfInBounds_toArray, List.set_cons_zero, List.set_cons_succ])
                      obtain ⟨wz, rfl⟩ : ∃ x, x = wn := ⟨_, rfl⟩
                      refine wpAnyH_cast (l' := #[true, true, true, true, true, true, true, true, true, true, true, true, true, true, true, true, false, false, false, false, false, false]) (by kernel_rfl) ?_
                      clear hHeld hm8 hm15
                      revert hv15
                      revert hv8
                      revert hzw
                      revert on
                      revert oi
                      revert hon
                      revert wz
                      revert c15
                      revert A15
                      revert c8
                      revert A8
                      revert g14
                      revert g7
                      exact final ()
                  · intro K9 hK9
                    obtain ⟨t0, t1⟩ := HT _ hon
                    go_simp
                    clear t0 t1
                    refine hK9.out _ _ (HS _ (hon.mono fun k _ h => .inr h)) (fun hHeld => ?_)
                    clear hK9 K9
                    (try simp only [Act.put, List.getElem_toArray, List.getElem_cons_succ, List.getElem_cons_zero, List.setIfInBounds_toArray, List.set_cons_zero, List.set_cons_succ])
                    refine wpAnyH_ready (rs := [8, 14]) (by kernel_rfl) (by simp) ?_
                    refine AllReadyH.cons (o := _) rfl ?_ (AllReadyH.cons (o := _) rfl ?_ (AllReadyH.nil))
                    · intro K9 hK9
                      refine step_app2 rfl (.tmp 54) (.tmp 56) (by rfl) IDE.enc idT _ _ [⟨x1, x2⟩] ids' (.slice iA' ids'.length iC') (by rfl) (by rfl) (m := 1) (n := ids'.length + 1) rfl rfl oi (blk_slAt IDE.enc (fr := (0, 0)) (e := 46) k7 [⟨x1, x2⟩] rfl) (by omega) (by unfold maxLen; omega) hzw ?_
                      intro A8 c8 wn ho8 hm8 hst8
                      have hv8 := own_new hst8.2 hon.size
                      have on' := own_grownOwn oi hst8.1 on (by decide)
                      (try replace k14 := heap_grownOwn oi hst8.1 k14 (by decide))
                      replace hzw := Nat.le_trans hzw (grown_size hst8.1)
                      replace hon := hon.trans' (only_grown hst8.1) (fun k _ h => .inl h)
                      clear oi on k7 hst8
                      have oi := ho8
                      have on := on'
                      clear ho8 on'
                      refine hK9.out _ _ (HS _ (hon.mono fun k _ h => .inr h)) (fun hHeld => ?_)
                      clear hK9 K9
                      (try simp only [Act.put, List.getElem_toArray, List.getElem_cons_succ, List.getElem_cons_zero, List.setIfInBounds_toArray, List.set_cons_zero, List.set_cons_succ])
                      obtain ⟨wz, rfl⟩ : ∃ x, x = wn := ⟨_, rfl⟩
                      refine wpAnyH_ready (rs := [14]) (by kernel_rfl) (by simp) ?_
                      refine AllReadyH.cons (o := _) rfl ?_ AllReadyH.nil
                      intro K9 hK9
                      go_simp
                      refine hK9.out _ _ (HS _ ((hon.alloc _).mono fun k _ h => .inr h)) (fun hHeld => ?_)
                      clear hK9 K9
                      (try simp only [Act.put, List.getElem_toArray, List.getElem_cons_succ, List.getElem_cons_zero, List.setIfInBounds_toArray, List.set_cons_zero, List.set_cons_succ])
                      obtain ⟨g14, hg⟩ : ∃ g, g = wz.heap.size := ⟨_, rfl⟩
                      obtain ⟨wn, hwn⟩ : ∃ x, x = wz.alloc (.cells #[.int .i64 m1, .int .i64 m2, .int .i64 mk, .int .i64 mc, .slice mA mf.length mp] 56 (0, 0)) := ⟨_, rfl⟩
                      have k14 : wn.heap[g14]? = some (.cells #[.int .i64 m1, .int .i64 m2, .int .i64 mk, .int .i64 mc, .slice mA mf.length mp] 56 (0, 0)) := by rw [hwn, hg]; exact heap_alloc_new _ _
                      have hbn : Below wz.heap.size wz wn := by rw [hwn]; exact (by repeat (first | with_reducible exact Below.refl _ _ | (with_reducible refine Below.drew ?_) | (with_reducible refine below_drewN ?_ _) | (with_reducible refine Below.alloc ?_ ?_ _; rotate_left; (first | omega | (simp <;> omega))) | (with_reducible refine Below.setCell ?_ ?_ _; rotate_left; (first | omega | (simp <;> omega)))))
                      rw [← hwn, ← hg]
                      clear hwn hg hHeld
                      replace hon := hon.trans (Only.of_below hbn)
                      replace oi := oi.below hbn
                      replace on := on.below hbn
                      replace hzw := Nat.le_trans hzw hbn.size
                      (try replace k7 := blk_below k7 hbn)
                      clear hbn
                      obtain ⟨wz, rfl⟩ : ∃ x, x = wn := ⟨_, rfl⟩
                      have hHeld := HS _ (hon.mono fun k _ h => .inr h)
                      refine wpAnyH_ready (rs := [15]) (by kernel_rfl) (by simp) ?_
                      refine AllReadyH.cons (o := _) rfl ?_ AllReadyH.nil
                      intro K9 hK9
                      refine step_app2 rfl (.tmp 61) (.tmp 63) (by rfl) NodeE.enc nodeTV _ _ [(⟨m1, m2, mk, mc, mA, mp, mf⟩ : NodeE)] (nodesE l ids') (.slice nA' ids'.length nC') (by rfl) (by rfl) (m := 1) (n := ids'.length + 1) rfl (by rw [nodesE_len]) on (blk_slAt NodeE.enc (fr := (0, 0)) (e := 56) k14 [(⟨m1, m2, mk, mc, mA, mp, mf⟩ : NodeE)] rfl) (by omega) (by unfold maxLen; omega) hzw ?_
                      intro A15 c15 wn ho15 hm15 hst15
                      have hv15 := own_new hst15.2 hon.size
                      have oi' := own_grownOwn on hst15.1 oi (by decide)
                      replace hzw := Nat.le_trans hzw (grown_size hst15.1)
                      replace hon := hon.trans' (only_grown hst15.1) (fun k _ h => .inr h)
                      clear oi on k14 hst15
                      have on := ho15
                      have oi := oi'
                      clear ho15 oi'
                      refine hK9.out _ _ (HS _ (hon.mono fun k _ h => .inr h)) (fun hHeld => ?_)
                      clear hK9 K9
                      (try simp only [Act.put, List.getElem_toArray, List.getElem_cons_succ, List.getElem_cons_zero, List.setIfInBounds_toArray, List.set_cons_zero, List.set_cons_succ])
                      obtain ⟨wz, rfl⟩ : ∃ x, x = wn := ⟨_, rfl⟩
                      refine wpAnyH_cast (l' := #[true, true, true, true, true, true, true, true, true, true, true, true, true, true, true, true, false, false, false, false, false, false]) (by kernel_rfl) ?_
                      clear hHeld hm8 hm15
                      revert hv15
                      revert hv8
                      revert hzw
                      revert on
                      revert oi
                      revert hon
                      revert wz
                      revert c15
                      revert A15
                      revert c8
                      revert A8
                      revert g14
                      revert g7
                      exact final ()
                    · intro K9 hK9
                      go_simp
                      refine hK9.out _ _ (HS _ ((hon.alloc _).mono fun k _ h => .inr h)) (fun hHeld => ?_)
                      clear hK9 K9
                      (try simp only [Act.put, List.getElem_toArray, List.getElem_cons_succ, List.getElem_cons_zero, List.setIfInBounds_toArray, List.set_cons_zero, List.set_cons_succ])
                      obtain ⟨g14, hg⟩ : ∃ g, g = wz.heap.size := ⟨_, rfl⟩
                      obtain ⟨wn, hwn⟩ : ∃ x, x = wz.alloc (.cells #[.int .i64 m1, .int .i64 m2, .int .i64 mk, .int .i64 mc, .slice mA mf.length mp] 56 (0, 0)) := ⟨_, rfl⟩
                      have k14 : wn.heap[g14]? = some (.cells #[.int .i64 m1, .int .i64 m2, .int .i64 mk, .int .i64 mc, .slice mA mf.length mp] 56 (0, 0)) := by rw [hwn, hg]; exact heap_alloc_new _ _
                      have hbn : Below wz.heap.size wz wn := by rw [hwn]; exact (by repeat (first | with_reducible exact Below.refl _ _ | (with_reducible refine Below.drew ?_) | (with_reducible refine below_drewN ?_ _) | (with_reducible refine Below.alloc ?_ ?_ _; rotate_left; (first | omega | (simp <;> omega))) | (with_reducible refine Below.setCell ?_ ?_ _; rotate_left; (first | omega | (simp <;> omega)))))
                      rw [← hwn, ← hg]
                      clear hwn hg hHeld
                      replace hon := hon.trans (Only.of_below hbn)
                      replace oi := oi.below hbn
                      replace on := on.below hbn
                      replace hzw := Nat.le_trans hzw hbn.size
                      (try replace k7 := blk_below k7 hbn)
                      clear hbn
                      obtain ⟨wz, rfl⟩ : ∃ x, x = wn := ⟨_, rfl⟩
                      have hHeld := HS _ (hon.mono fun k _ h => .inr h)
                      refine wpAnyH_ready (rs := [8]) (by kernel_rfl) (by simp) ?_
                      refine AllReadyH.cons (o := _) rfl ?_ AllReadyH.nil
                      intro K9 hK9
                      refine step_app2 rfl (.tmp 54) (.tmp 56) (by rfl) IDE.enc idT _ _ [⟨x1, x2⟩] ids' (.slice iA' ids'.length iC') (by rfl) (by rfl) (m := 1) (n := ids'.length + 1) rfl rfl oi (blk_slAt IDE.enc (fr := (0, 0)) (e := 46) k7 [⟨x1, x2⟩] rfl) (by omega) (by unfold maxLen; omega) hzw ?_
                      intro A8 c8 wn ho8 hm8 hst8
                      have hv8 := own_new hst8.2 hon.size
                      have on' := own_grownOwn oi hst8.1 on (by decide)
                      (try replace k14 := heap_grownOwn oi hst8.1 k14 (by decide))
                      replace hzw := Nat.le_trans hzw (grown_size hst8.1)
                      replace hon := hon.trans' (only_grown hst8.1) (fun k _ h => .inl h)
                      clear oi on k7 hst8
                      have oi := ho8
                      have on := on'
                      clear ho8 on'
                      refine hK9.out _ _ (HS _ (hon.mono fun k _ h => .inr h)) (fun hHeld => ?_)
                      clear hK9 K9
                      (try simp only [Act.put, List.getElem_toArray, List.getElem_cons_succ, List.getElem_cons_zero, List.setIfInBounds_toArray, List.set_cons_zero, List.set_cons_succ])
                      obtain ⟨wz, rfl⟩ : ∃ x, x = wn := ⟨_, rfl⟩
                      refine wpAnyH_ready (rs := [15]) (by kernel_rfl) (by simp) ?_
                      refine AllReadyH.cons (o := _) rfl ?_ AllReadyH.nil
                      intro K9 hK9
                      refine step_app2 rfl (.tmp 61) (.tmp 63) (by rfl) NodeE.enc nodeTV _ _ [(⟨m1, m2, mk, mc, mA, mp, mf⟩ : NodeE)] (nodesE l ids') (.slice nA' ids'.length nC') (by rfl) (by rfl) (m := 1) (n := ids'.length + 1) rfl (by rw [nodesE_len]) on (blk_slAt NodeE.enc (fr := (0, 0)) (e := 56) k14 [(⟨m1, m2, mk, mc, mA, mp, mf⟩ : NodeE)] rfl) (by omega) (by unfold maxLen; omega) hzw ?_
                      intro A15 c15 wn ho15 hm15 hst15
                      have hv15 := own_new hst15.2 hon.size
                      have oi' := own_grownOwn on hst15.1 oi (by decide)
                      replace hzw := Nat.le_trans hzw (grown_size hst15.1)
                      replace hon := hon.trans' (only_grown hst15.1) (fun k _ h => .inr h)
                      clear oi on k14 hst15
                      have on := ho15
                      have oi := oi'
                      clear ho15 oi'
                      refine hK9.out _ _ (HS _ (hon.mono fun k _ h => .inr h)) (fun hHeld => ?_)
                      clear hK9 K9
                      (try simp only [Act.put, List.getElem_toArray, List.getElem_cons_succ, List.getElem_cons_zero, List.setIfInBounds_toArray, List.set_cons_zero, List.set_cons_succ])
                      obtain ⟨wz, rfl⟩ : ∃ x, x = wn := ⟨_, rfl⟩
                      refine wpAnyH_cast (l' := #[true, true, true, true, true, true, true, true, true, true, true, true, true, true, true, true, false, false, false, false, false, false]) (by kernel_rfl) ?_
                      clear hHeld hm8 hm15
                      revert hv15
                      revert hv8
                      revert hzw
                      revert on
                      revert oi
                      revert hon
                      revert wz
                      revert c15
                      revert A15
                      revert c8
                      revert A8
                      revert g14
                      revert g7
                      exact final ()
                  · intro K9 hK9
                    go_simp
                    refine hK9.out _ _ (HS _ ((hon.alloc _).mono fun k _ h => .inr h)) (fun hHeld => ?_)
                    clear hK9 K9
                    (try simp only [Act.put, List.getElem_toArray, List.getElem_cons_succ, List.getElem_cons_zero, List.setIfInBounds_toArray, List.set_cons_zero, List.set_cons_succ])
                    obtain ⟨g14, hg⟩ : ∃ g, g = wz.heap.size := ⟨_, rfl⟩
                    obtain ⟨wn, hwn⟩ : ∃ x, x = wz.alloc (.cells #[.int .i64 m1, .int .i64 m2, .int .i64 mk, .int .i64 mc, .slice mA mf.length mp] 56 (0, 0)) := ⟨_, rfl⟩
                    have k14 : wn.heap[g14]? = some (.cells #[.int .i64 m1, .int .i64 m2, .int .i64 mk, .int .i64 mc, .slice mA mf.length mp] 56 (0, 0)) := by rw [hwn, hg]; exact heap_alloc_new _ _
                    have hbn : Below wz.heap.size wz wn := by rw [hwn]; exact (by repeat (first | with_reducible exact Below.refl _ _ | (with_reducible refine Below.drew ?_) | (with_reducible refine below_drewN ?_ _) | (with_reducible refine Below.alloc ?_ ?_ _; rotate_left; (first | omega | (simp <;> omega))) | (with_reducible refine Below.setCell ?_ ?_ _; rotate_left; (first | omega | (simp <;> omega)))))
                    rw [← hwn, ← hg]
                    clear hwn hg hHeld
                    replace hon := hon.trans (Only.of_below hbn)
                    replace oi := oi.below hbn
                    replace on := on.below hbn
                    replace hzw := Nat.le_trans hzw hbn.size
                    (try replace k7 := blk_below k7 hbn)
                    clear hbn
                    obtain ⟨wz, rfl⟩ : ∃ x, x = wn := ⟨_, rfl⟩
                    have hHeld := HS _ (hon.mono fun k _ h => .inr h)
                    refine wpAnyH_ready (rs := [8, 12]) (by kernel_rfl) (by simp) ?_
                    refine AllReadyH.cons (o := _) rfl ?_ (AllReadyH.cons (o := _) rfl ?_ (AllReadyH.nil))
                    · intro K9 hK9
                      refine step_app2 rfl (.tmp 54) (.tmp 56) (by rfl) IDE.enc idT _ _ [⟨x1, x2⟩] ids' (.slice iA' ids'.length iC') (by rfl) (by rfl) (m := 1) (n := ids'.length + 1) rfl rfl oi (blk_slAt IDE.enc (fr := (0, 0)) (e := 46) k7 [⟨x1, x2⟩] rfl) (by omega) (by unfold maxLen; omega) hzw ?_
                      intro A8 c8 wn ho8 hm8 hst8
                      have hv8 := own_new hst8.2 hon.size
                      have on' := own_grownOwn oi hst8.1 on (by decide)
                      (try replace k14 := heap_grownOwn oi hst8.1 k14 (by decide))
                      replace hzw := Nat.le_trans hzw (grown_size hst8.1)
                      replace hon := hon.trans' (only_grown hst8.1) (fun k _ h => .inl h)
                      clear oi on k7 hst8
                      have oi := ho8
                      have on := on'
                      clear ho8 on'
                      refine hK9.out _ _ (HS _ (hon.mono fun k _ h => .inr h)) (fun hHeld => ?_)
                      clear hK9 K9
                      (try simp only [Act.put, List.getElem_toArray, List.getElem_cons_succ, List.getElem_cons_zero, List.setIfInBounds_toArray, List.set_cons_zero, List.set_cons_succ])
                      obtain ⟨wz, rfl⟩ : ∃ x, x = wn := ⟨_, rfl⟩
                      refine wpAnyH_ready (rs := [12]) (by kernel_rfl) (by simp) ?_
                      refine AllReadyH.cons (o := _) rfl ?_ AllReadyH.nil
                      intro K9 hK9
                      obtain ⟨t0, t1⟩ := HT _ hon
                      go_simp
                      clear t0 t1
                      refine hK9.out _ _ (HS _ (hon.mono fun k _ h => .inr h)) (fun hHeld => ?_)
                      clear hK9 K9
                      (try simp only [Act.put, List.getElem_toArray, List.getElem_cons_succ, List.getElem_cons_zero, List.setIfInBounds_toArray, List.set_cons_zero, List.set_cons_succ])
                      refine wpAnyH_ready (rs := [15]) (by kernel_rfl) (by simp) ?_
                      refine AllReadyH.cons (o := _) rfl ?_ AllReadyH.nil
                      intro K9 hK9
                      refine step_app2 rfl (.tmp 61) (.tmp 63) (by rfl) NodeE.enc nodeTV _ _ [(⟨m1, m2, mk, mc, mA, mp, mf⟩ : NodeE)] (nodesE l ids') (.slice nA' ids'.length nC') (by rfl) (by rfl) (m := 1) (n := ids'.length + 1) rfl (by rw [nodesE_len]) on (blk_slAt NodeE.enc (fr := (0, 0)) (e := 56) k14 [(⟨m1, m2, mk, mc, mA, mp, mf⟩ : NodeE)] rfl) (by omega) (by unfold maxLen; omega) hzw ?_
                      intro A15 c15 wn ho15 hm15 hst15
                      have hv15 := own_new hst15.2 hon.size
                      have oi' := own_grownOwn on hst15.1 oi (by decide)
                      replace hzw := Nat.le_trans hzw (grown_size hst15.1)
                      replace hon := hon.trans' (only_grown hst15.1) (fun k _ h => .inr h)
                      clear oi on k14 hst15
                      have on := ho15
                      have oi := oi'
                      clear ho15 oi'
                      refine hK9.out _ _ (HS _ (hon.mono fun k _ h => .inr h)) (fun hHeld => ?_)
                      clear hK9 K9
                      (try simp only [Act.put, List.getElem_toArray, List.getElem_cons_succ, List.getElem_cons_zero, List.setIfInBounds_toArray, List.set_cons_zero, List.set_cons_succ])
                      obtain ⟨wz, rfl⟩ : ∃ x, x = wn := ⟨_, rfl⟩
                      refine wpAnyH_cast (l' := #[true, true, true, true, true, true, true, true, true, true, true, true, true, true, true, true, false, false, false, false, false, false]) (by kernel_rfl) ?_
                      clear hHeld hm8 hm15
                      revert hv15
                      revert hv8
                      revert hzw
                      revert on
                      revert oi
                      revert hon
                      revert wz
                      revert c15
                      revert A15
                      revert c8
                      revert A8
                      revert g14
                      revert g7
                      exact final ()
                    · intro K9 hK9
                      obtain ⟨t0, t1⟩ := HT _ hon
                      go_simp
                      clear t0 t1
                      refine hK9.out _ _ (HS _ (hon.mono fun k _ h => .inr h)) (fun hHeld => ?_)
                      clear hK9 K9
                      (try simp only [Act.put, List.getElem_toArray, List.getElem_cons_succ, List.getElem_cons_zero, List.setIfInBounds_toArray, List.set_cons_zero, List.set_cons_succ])
                      refine wpAnyH_ready (rs := [8]) (by kernel_rfl) (by simp) ?_
                      refine AllReadyH.cons (o := _) rfl ?_ AllReadyH.nil
                      intro K9 hK9
                      refine step_app2 rfl (.tmp 54) (.tmp 56) (by rfl) IDE.enc idT _ _ [⟨x1, x2⟩] ids' (.slice iA' ids'.length iC') (by rfl) (by rfl) (m := 1) (n := ids'.length + 1) rfl rfl oi (blk_slAt IDE.enc (fr := (0, 0)) (e := 46) k7 [⟨x1, x2⟩] rfl) (by omega) (by unfold maxLen; omega) hzw ?_
                      intro A8 c8 wn ho8 hm8 hst8
                      have hv8 := own_new hst8.2 hon.size
                      have on' := own_grownOwn oi hst8.1 on (by decide)
                      (try replace k14 := heap_grownOwn oi hst8.1 k14 (by decide))
                      replace hzw := Nat.le_trans hzw (grown_size hst8.1)
                      replace hon := hon.trans' (only_grown hst8.1) (fun k _ h => .inl h)
                      clear oi on k7 hst8
                      have oi := ho8
                      have on := on'
                      clear ho8 on'
                      refine hK9.out _ _ (HS _ (hon.mono fun k _ h => .inr h)) (fun hHeld => ?_)
                      clear hK9 K9
                      (try simp only [Act.put, List.getElem_toArray, List.getElem_cons_succ, List.getElem_cons_zero, List.setIfInBounds_toArray, List.set_cons_zero, List.set_cons_succ])
                      obtain ⟨wz, rfl⟩ : ∃ x, x = wn := ⟨_, rfl⟩
                      refine wpAnyH_ready (rs := [15]) (by kernel_rfl) (by simp) ?_
                      refine AllReadyH.cons (o := _) rfl ?_ AllReadyH.nil
                      intro K9 hK9
                      refine step_app2 rfl (.tmp 61) (.tmp 63) (by rfl) NodeE.enc nodeTV _ _ [(⟨m1, m2, mk, mc, mA, mp, mf⟩ : NodeE)] (nodesE l ids') (.slice nA' ids'.length nC') (by rfl) (by rfl) (m := 1) (n := ids'.length + 1) rfl (by rw [nodesE_len]) on (blk_slAt NodeE.enc (fr := (0, 0)) (e := 56) k14 [(⟨m1, m2, mk, mc, mA, mp, mf⟩ : NodeE)] rfl) (by omega) (by unfold maxLen; omega) hzw ?_
                      intro A15 c15 wn ho15 hm15 hst15
                      have hv15 := own_new hst15.2 hon.size
                      have oi' := own_grownOwn on hst15.1 oi (by decide)
                      replace hzw := Nat.le_trans hzw (grown_size hst15.1)
                      replace hon := hon.trans' (only_grown hst15.1) (fun k _ h => .inr h)
                      clear oi on k14 hst15
                      have on := ho15
                      have oi := oi'
                      clear ho15 oi'
                      refine hK9.out _ _ (HS _ (hon.mono fun k _ h => .inr h)) (fun hHeld => ?_)
                      clear hK9 K9
                      (try simp only [Act.put, List.getElem_toArray, List.getElem_cons_succ, List.getElem_cons_zero, List.setIfInBounds_toArray, List.set_cons_zero, List.set_cons_succ])
                      obtain ⟨wz, rfl⟩ : ∃ x, x = wn := ⟨_, rfl⟩
                      refine wpAnyH_cast (l' := #[true, true, true, true, true, true, true, true, true, true, true, true, true, true, true, true, false, false, false, false, false, false]) (by kernel_rfl) ?_
                      clear hHeld hm8 hm15
                      revert hv15
                      revert hv8
                      revert hzw
                      revert on
                      revert oi
                      revert hon
                      revert wz
                      revert c15
                      revert A15
                      revert c8
                      revert A8
                      revert g14
                      revert g7
                      exact final ()
                · intro K9 hK9
                  obtain ⟨t0, t1⟩ := HT _ hon
                  go_simp
                  clear t0 t1
                  refine hK9.out _ _ (HS _ (hon.mono fun k _ h => .inr h)) (fun hHeld => ?_)
                  clear hK9 K9
                  (try simp only [Act.put, List.getElem_toArray, List.getElem_cons_succ, List.getElem_cons_zero, List.setIfInBounds_toArray, List.set_cons_zero, List.set_cons_succ])
                  refine wpAnyH_ready (rs := [7, 14]) (by kernel_rfl) (by simp) ?_
                  refine AllReadyH.cons (o := _) rfl ?_ (AllReadyH.cons (o := _) rfl ?_ (AllReadyH.nil))
                  · intro K9 hK9
                    go_simp
                    refine hK9.out _ _ (HS _ ((hon.alloc _).mono fun k _ h => .inr h)) (fun hHeld => ?_)
                    clear hK9 K9
                    (try simp only [Act.put, List.getElem_toArray, List.getElem_cons_succ, List.getElem_cons_zero, List.setIfInBounds_toArray, List.set_cons_zero, List.set_cons_succ])
                    obtain ⟨g7, hg⟩ : ∃ g, g = wz.heap.size := ⟨_, rfl⟩
                    obtain ⟨wn, hwn⟩ : ∃ x, x = wz.alloc (.cells #[.int .i64 x1, .int .i64 x2] 46 (0, 0)) := ⟨_, rfl⟩
                    have k7 : wn.heap[g7]? = some (.cells #[.int .i64 x1, .int .i64 x2] 46 (0, 0)) := by rw [hwn, hg]; exact heap_alloc_new _ _
                    have hbn : Below wz.heap.size wz wn := by rw [hwn]; exact (by repeat (first | with_reducible exact Below.refl _ _ | (with_reducible refine Below.drew ?_) | (with_reducible refine below_drewN ?_ _) | (with_reducible refine Below.alloc ?_ ?_ _; rotate_left; (first | omega | (simp <;> omega))) | (with_reducible refine Below.setCell ?_ ?_ _; rotate_left; (first | omega | (simp <;> omega)))))
                    rw [← hwn, ← hg]
                    clear hwn hg hHeld
                    replace hon := hon.trans (Only.of_below hbn)
                    replace oi := oi.below hbn
                    replace on := on.below hbn
                    replace hzw := Nat.le_trans hzw hbn.size
                    (try replace k14 := blk_below k14 hbn)
                    clear hbn
                    obtain ⟨wz, rfl⟩ : ∃ x, x = wn := ⟨_, rfl⟩
                    have hHeld := HS _ (hon.mono fun k _ h => .inr h)
                    refine wpAnyH_ready (rs := [8, 14]) (by kernel_rfl) (by simp) ?_
                    refine AllReadyH.cons (o := _) rfl ?_ (AllReadyH.cons (o := _) rfl ?_ (AllReadyH.nil))
                    · intro K9 hK9
                      refine step_app2 rfl (.tmp 54) (.tmp 56) (by rfl) IDE.enc idT _ _ [⟨x1, x2⟩] ids' (.slice iA' ids'.length iC') (by rfl) (by rfl) (m := 1) (n := ids'.length + 1) rfl rfl oi (blk_slAt IDE.enc (fr := (0, 0)) (e := 46) k7 [⟨x1, x2⟩] rfl) (by omega) (by unfold maxLen; omega) hzw ?_
                      intro A8 c8 wn ho8 hm8 hst8
                      have hv8 := own_new hst8.2 hon.size
                      have on' := own_grownOwn oi hst8.1 on (by decide)
                      (try replace k14 := heap_grownOwn oi hst8.1 k14 (by decide))
                      replace hzw := Nat.le_trans hzw (grown_size hst8.1)
                      replace hon := hon.trans' (only_grown hst8.1) (fun k _ h => .inl h)
                      clear oi on k7 hst8
                      have oi := ho8
                      have on := on'
                      clear ho8 on'
                      refine hK9.out _ _ (HS _ (hon.mono fun k _ h => .inr h)) (fun hHeld => ?_)
                      clear hK9 K9
                      (try simp only [Act.put, List.getElem_toArray, List.getElem_cons_succ, List.getElem_cons_zero, List.setIfInBounds_toArray, List.set_cons_zero, List.set_cons_succ])
                      obtain ⟨wz, rfl⟩ : ∃ x, x = wn := ⟨_, rfl⟩
                      refine wpAnyH_ready (rs := [14]) (by kernel_rfl) (by simp) ?_
                      refine AllReadyH.cons (o := _) rfl ?_ AllReadyH.nil
                      intro K9 hK9
                      go_simp
                      refine hK9.out _ _ (HS _ ((hon.alloc _).mono fun k _ h => .inr h)) (fun hHeld => ?_)
                      clear hK9 K9
                      (try simp only [Act.put, List.getElem_toArray, List.getElem_cons_succ, List.getElem_cons_zero, List.setIfInBounds_toArray, List.set_cons_zero, List.set_cons_succ])
                      obtain ⟨g14, hg⟩ : ∃ g, g = wz.heap.size := ⟨_, rfl⟩
                      obtain ⟨wn, hwn⟩ : ∃ x, x = wz.alloc (.cells #[.int .i64 m1, .int .i64 m2, .int .i64 mk, .int .i64 mc, .slice mA mf.length mp] 56 (0, 0)) := ⟨_, rfl⟩
                      have k14 : wn.heap[g14]? = some (.cells #[.int .i64 m1, .int .i64 m2, .int .i64 mk, .int .i64 mc, .slice mA mf.length mp] 56 (0, 0)) := by rw [hwn, hg]; exact heap_alloc_new _ _
                      have hbn : Below wz.heap.size wz wn := by rw [hwn]; exact (by repeat (first | with_reducible exact Below.refl _ _ | (with_reducible refine Below.drew ?_) | (with_reducible refine below_drewN ?_ _) | (with_reducible refine Below.alloc ?_ ?_ _; rotate_left; (first | omega | (simp <;> omega))) | (with_reducible refine Below.setCell ?_ ?_ _; rotate_left; (first | omega | (simp <;> omega)))))
                      rw [← hwn, ← hg]
                      clear hwn hg hHeld
                      replace hon := hon.trans (Only.of_below hbn)
                      replace oi := oi.below hbn
                      replace on := on.below hbn
                      replace hzw := Nat.le_trans hzw hbn.size
                      (try replace k7 := blk_below k7 hbn)
                      clear hbn
                      obtain ⟨wz, rfl⟩ : ∃ x, x = wn := ⟨_, rfl⟩
                      have hHeld := HS _ (hon.mono fun k _ h => .inr h)
                      refine wpAnyH_ready (rs := [15]) (by kernel_rfl) (by simp) ?_
                      refine AllReadyH.cons (o := _) rfl ?_ AllReadyH.nil
                      intro K9 hK9
                      refine step_app2 rfl (.tmp 61) (.tmp 63) (by rfl) NodeE.enc nodeTV _ _ [(⟨m1, m2, mk, mc, mA, mp, mf⟩ : NodeE)] (nodesE l ids') (.slice nA' ids'.length nC') (by rfl) (by rfl) (m := 1) (n := ids'.length + 1) rfl (by rw [nodesE_len]) on (blk_slAt NodeE.enc (fr := (0, 0)) (e := 56) k14 [(⟨m1, m2, mk, mc, mA, mp, mf⟩ : NodeE)] rfl) (by omega) (by unfold maxLen; omega) hzw ?_
                      intro A15 c15 wn ho15 hm15 hst15
                      have hv15 := own_new hst15.2 hon.size
                      have oi' := own_grownOwn on hst15.1 oi (by decide)
                      replace hzw := Nat.le_trans hzw (grown_size hst15.1)
                      replace hon := hon.trans' (only_grown hst15.1) (fun k _ h => .inr h)
                      clear oi on k14 hst15
                      have on := ho15
                      have oi := oi'
                      clear ho15 oi'
                      refine hK9.out _ _ (HS _ (hon.mono fun k _ h => .inr h)) (fun hHeld => ?_)
                      clear hK9 K9
                      (try simp only [Act.put, List.getElem_toArray, List.getElem_cons_succ, List.getElem_cons_zero, List.setIfInBounds_toArray, List.set_cons_zero, List.set_cons_succ])
                      obtain ⟨wz, rfl⟩ : ∃ x, x = wn := ⟨_, rfl⟩
                      refine wpAnyH_cast (l' := #[true, true, true, true, true, true, true, true, true, true, true, true, true, true, true, true, false, false, false, false, false, false]) (by kernel_rfl) ?_
                      clear hHeld hm8 hm15
                      revert hv15
                      revert hv8
                      revert hzw
                      revert on
                      revert oi
                      revert hon
                      revert wz
                      revert c15
                      revert A15
                      revert c8
                      revert A8
                      revert g14
                      revert g7
                      exact final ()
                    · intro K9 hK9
                      go_simp
                      refine hK9.out _ _ (HS _ ((hon.alloc _).mono fun k _ h => .inr h)) (fun hHeld => ?_)
                      clear hK9 K9
                      (try simp only [Act.put, List.getElem_toArray, List.getElem_cons_succ, List.getElem_cons_zero, List.setIfInBounds_toArray, List.set_cons_zero, List.set_cons_succ])
                      obtain ⟨g14, hg⟩ : ∃ g, g = wz.heap.size := ⟨_, rfl⟩
                      obtain ⟨wn, hwn⟩ : ∃ x, x = wz.alloc (.cells #[.int .i64 m1, .int .i64 m2, .int .i64 mk, .int .i64 mc, .slice mA mf.length mp] 56 (0, 0)) := ⟨_, rfl⟩
                      have k14 : wn.heap[g14]? = some (.cells #[.int .i64 m1, .int .i64 m2, .int .i64 mk, .int .i64 mc, .slice mA mf.length mp] 56 (0, 0)) := by rw [hwn, hg]; exact heap_alloc_new _ _
                      have hbn : Below wz.heap.size wz wn := by rw [hwn]; exact (by repeat (first | with_reducible exact Below.refl _ _ | (with_reducible refine Below.drew ?_) | (with_reducible refine below_drewN ?_ _) | (with_reducible refine Below.alloc ?_ ?_ _; rotate_left; (first | omega | (simp <;> omega))) | (with_reducible refine Below.setCell ?_ ?_ _; rotate_left; (first | omega | (simp <;> omega)))))
                      rw [← hwn, ← hg]
                      clear hwn hg hHeld
                      replace hon := hon.trans (Only.of_below hbn)
                      replace oi := oi.below hbn
                      replace on := on.below hbn
                      replace hzw := Nat.le_trans hzw hbn.size
                      (try replace k7 := blk_below k7 hbn)
                      clear hbn
                      obtain ⟨wz, rfl⟩ : ∃ x, x = wn := ⟨_, rfl⟩
                      have hHeld := HS _ (hon.mono fun k _ h => .inr h)
                      refine wpAnyH_ready (rs := [8]) (by kernel_rfl) (by simp) ?_
                      refine AllReadyH.cons (o := _) rfl ?_ AllReadyH.nil
                      intro K9 hK9
                      refine step_app2 rfl (.tmp 54) (.tmp 56) (by rfl) IDE.enc idT _ _ [⟨x1, x2⟩] ids' (.slice iA' ids'.length iC') (by rfl) (by rfl) (m := 1) (n := ids'.length + 1) rfl rfl oi (blk_slAt IDE.enc (fr := (0, 0)) (e := 46) k7 [⟨x1, x2⟩] rfl) (by omega) (by unfold maxLen; omega) hzw ?_
                      intro A8 c8 wn ho8 hm8 hst8
                      have hv8 := own_new hst8.2 hon.size
                      have on' := own_grownOwn oi hst8.1 on (by decide)
                      (try replace k14 := heap_grownOwn oi hst8.1 k14 (by decide))
                      replace hzw := Nat.le_trans hzw (grown_size hst8.1)
                      replace hon := hon.trans' (only_grown hst8.1) (fun k _ h => .inl h)
                      clear oi on k7 hst8
                      have oi := ho8
                      have on := on'
                      clear ho8 on'
                      refine hK9.out _ _ (HS _ (hon.mono fun k _ h => .inr h)) (fun hHeld => ?_)
                      clear hK9 K9
                      (try simp only [Act.put, List.getElem_toArray, List.getElem_cons_succ, List.getElem_cons_zero, List.setIfInBounds_toArray, List.set_cons_zero, List.set_cons_succ])
                      obtain ⟨wz, rfl⟩ : ∃ x, x = wn := ⟨_, rfl⟩
                      refine wpAnyH_ready (rs := [15]) (by kernel_rfl) (by simp) ?_
                      refine AllReadyH.cons (o := _) rfl ?_ AllReadyH.nil
                      intro K9 hK9
                      refine step_app2 rfl (.tmp 61) (.tmp 63) (by rfl) NodeE.enc nodeTV _ _ [(⟨m1, m2, mk, mc, mA, mp, mf⟩ : NodeE)] (nodesE l ids') (.slice nA' ids'.length nC') (by rfl) (by rfl) (m := 1) (n := ids'.length + 1) rfl (by rw [nodesE_len]) on (blk_slAt NodeE.enc (fr := (0, 0)) (e := 56) k14 [(⟨m1, m2, mk, mc, mA, mp, mf⟩ : NodeE)] rfl) (by omega) (by unfold maxLen; omega) hzw ?_
                      intro A15 c15 wn ho15 hm15 hst15
                      have hv15 := own_new hst15.2 hon.size
                      have oi' := own_grownOwn on hst15.1 oi (by decide)
                      replace hzw := Nat.le_trans hzw (grown_size hst15.1)
                      replace hon := hon.trans' (only_grown hst15.1) (fun k _ h => .inr h)
                      clear oi on k14 hst15
                      have on := ho15
                      have oi := oi'
                      clear ho15 oi'
                      refine hK9.out _ _ (HS _ (hon.mono fun k _ h => .inr h)) (fun hHeld => ?_)
                      clear hK9 K9
                      (try simp only [Act.put, List.getElem_toArray, List.getElem_cons_succ, List.getElem_cons_zero, List.setIfInBounds_toArray, List.set_cons_zero, List.set_cons_succ])
                      obtain ⟨wz, rfl⟩ : ∃ x, x = wn := ⟨_, rfl⟩
                      refine wpAnyH_cast (l' := #[true, true, true, true, true, true, true, true, true, true, true, true, true, true, true, true, false, false, false, false, false, false]) (by kernel_rfl) ?_
                      clear hHeld hm8 hm15
                      revert hv15
                      revert hv8
                      revert hzw
                      revert on
                      revert oi
                      revert hon
                      revert wz
                      revert c15
                      revert A15
                      revert c8
                      revert A8
                      revert g14
                      revert g7
                      exact final ()
                  · intro K9 hK9
                    go_simp
                    refine hK9.out _ _ (HS _ ((hon.alloc _).mono fun k _ h => .inr h)) (fun hHeld => ?_)
                    clear hK9 K9
                    (try simp only [Act.put, List.getElem_toArray, List.getElem_cons_succ, List.getElem_cons_zero, List.setIfInBounds_toArray, List.set_cons_zero, List.set_cons_succ])
                    obtain ⟨g14, hg⟩ : ∃ g, g = wz.heap.size := ⟨_, rfl⟩
                    obtain ⟨wn, hwn⟩ : ∃ x, x = wz.alloc (.cells #[.int .i64 m1, .int .i64 m2, .int .i64 mk, .int .i64 mc, .slice mA mf.length mp] 56 (0, 0)) := ⟨_, rfl⟩
                    have k14 : wn.heap[g14]? = some (.cells #[.int .i64 m1, .int .i64 m2, .int .i64 mk, .int .i64 mc, .slice mA mf.length mp] 56 (0, 0)) := by rw [hwn, hg]; exact heap_alloc_new _ _
                    have hbn : Below wz.heap.size wz wn := by rw [hwn]; exact (by repeat (first | with_reducible exact Below.refl _ _ | (with_reducible refine Below.drew ?_) | (with_reducible refine below_drewN ?_ _) | (with_reducible refine Below.alloc ?_ ?_ _; rotate_left; (first | omega | (simp <;> omega))) | (with_reducible refine Below.setCell ?_ ?_ _; rotate_left; (first | omega | (simp <;> omega)))))
                    rw [← hwn, ← hg]
                    clear hwn hg hHeld
                    replace hon := hon.trans (Only.of_below hbn)
                    replace oi := oi.below hbn
                    replace on := on.below hbn
                    replace hzw := Nat.le_trans hzw hbn.size
                    (try replace k7 := blk_below k7 hbn)
                    clear hbn
                    obtain ⟨wz, rfl⟩ : ∃ x, x = wn := ⟨_, rfl⟩
                    have hHeld := HS _ (hon.mono fun k _ h => .inr h)
                    refine wpAnyH_ready (rs := [7]) (by kernel_rfl) (by simp) ?_
                    refine AllReadyH.cons (o := _) rfl ?_ AllReadyH.nil
                    intro K9 hK9
                    go_simp
                    refine hK9.out _ _ (HS _ ((hon.alloc _).mono fun k _ h => .inr h)) (fun hHeld => ?_)
                    clear hK9 K9
                    (try simp only [Act.put, List.getElem_toArray, List.getElem_cons_succ, List.getElem_cons_zero, List.setIfInBounds_toArray, List.set_cons_zero, List.set_cons_succ])
                    obtain ⟨g7, hg⟩ : ∃ g, g = wz.heap.size := ⟨_, rfl⟩
                    obtain ⟨wn, hwn⟩ : ∃ x, x = wz.alloc (.cells #[.int .i64 x1, .int .i64 x2] 46 (0, 0)) := ⟨_, rfl⟩
                    have k7 : wn.heap[g7]? = some (.cells #[.int .i64 x1, .int .i64 x2] 46 (0, 0)) := by rw [hwn, hg]; exact heap_alloc_new _ _
                    have hbn : Below wz.heap.size wz wn := by rw [hwn]; exact (by repeat (first | with_reducible exact Below.refl _ _ | (with_reducible refine Below.drew ?_) | (with_reducible refine below_drewN ?_ _) | (with_reducible refine Below.alloc ?_ ?_ _; rotate_left; (first | omega | (simp <;> omega))) | (with_reducible refine Below.setCell ?_ ?_ _; rotate_left; (first | omega | (simp <;> omega)))))
                    rw [← hwn, ← hg]
                    clear hwn hg hHeld
                    replace hon := hon.trans (Only.of_below hbn)
                    replace oi := oi.below hbn
                    replace on := on.below hbn
                    replace hzw := Nat.le_trans hzw hbn.size
                    (try replace k14 := blk_below k14 hbn)
                    clear hbn
                    obtain ⟨wz, rfl⟩ : ∃ x, x = wn := ⟨_, rfl⟩
                    have hHeld := HS _ (hon.mono fun k _ h => .inr h)
                    refine wpAnyH_ready (rs := [8]) (by kernel_rfl) (by simp) ?_
                    refine AllReadyH.cons (o := _) rfl ?_ AllReadyH.nil
                    intro K9 hK9
                    refine step_app2 rfl (.tmp 54) (.tmp 56) (by rfl) IDE.enc idT _ _ [⟨x1, x2⟩] ids' (.slice iA' ids'.length iC') (by rfl) (by rfl) (m := 1) (n := ids'.length + 1) rfl rfl oi (blk_slAt IDE.enc (fr := (0, 0)) (e := 46) k7 [⟨x1, x2⟩] rfl) (by omega) (by unfold maxLen; omega) hzw ?_
                    intro A8 c8 wn ho8 hm8 hst8
                    have hv8 := own_new hst8.2 hon.size
                    have on' := own_grownOwn oi hst8.1 on (by decide)
                    (try replace k14 := heap_grownOwn oi hst8.1 k14 (by decide))
                    replace hzw := Nat.le_trans hzw (grown_size hst8.1)
                    replace hon := hon.trans' (only_grown hst8.1) (fun k _ h => .inl h)
                    clear oi on k7 hst8
                    have oi := ho8
                    have on := on'
                    clear ho8 on'
                    refine hK9.out _ _ (HS _ (hon.mono fun k _ h => .inr h)) (fun hHeld => ?_)
                    clear hK9 K9
                    (try simp only [Act.put, List.getElem_toArray, List.getElem_cons_succ, List.getElem_cons_zero, List.setIfInBounds_toArray, List.set_cons_zero, List.set_cons_succ])
                    obtain ⟨wz, rfl⟩ : ∃ x, x = wn := ⟨_, rfl⟩
                    refine wpAnyH_ready (rs := [15]) (by kernel_rfl) (by simp) ?_
                    refine AllReadyH.cons (o := _) rfl ?_ AllReadyH.nil
                    intro K9 hK9
                    refine step_app2 rfl (.tmp 61) (.tmp 63) (by rfl) NodeE.enc nodeTV _ _ [(⟨m1, m2, mk, mc, mA, mp, mf⟩ : NodeE)] (nodesE l ids') (.slice nA' ids'.length nC') (by rfl) (by rfl) (m := 1) (n := ids'.length + 1) rfl (by rw [nodesE_len]) on (blk_slAt NodeE.enc (fr := (0, 0)) (e := 56) k14 [(⟨m1, m2, mk, mc, mA, mp, mf⟩ : NodeE)] rfl) (by omega) (by unfold maxLen; omega) hzw ?_
                    intro A15 c15 wn ho15 hm15 hst15
                    have hv15 := own_new hst15.2 hon.size
                    have oi' := own_grownOwn on hst15.1 oi (by decide)
                    replace hzw := Nat.le_trans hzw (grown_size hst15.1)
                    replace hon := hon.trans' (only_grown hst15.1) (fun k _ h => .inr h)
                    clear oi on k14 hst15
                    have on := ho15
                    have oi := oi'
                    clear ho15 oi'
                    refine hK9.out _ _ (HS _ (hon.mono fun k _ h => .inr h)) (fun hHeld => ?_)
                    clear hK9 K9
                    (try simp only [Act.put, List.getElem_toArray, List.getElem_cons_succ, List.getElem_cons_zero, List.setIfInBounds_toArray, List.set_cons_zero, List.set_cons_succ])
                    obtain ⟨wz, rfl⟩ : ∃ x, x = wn := ⟨_, rfl⟩
                    refine wpAnyH_cast (l' := #[true, true, true, true, true, true, true, true, true, true, true, true, true, true, true, true, false, false, false, false, false, false]) (by kernel_rfl) ?_
                    clear hHeld hm8 hm15
                    revert hv15
                    revert hv8
                    revert hzw
                    revert on
                    revert oi
                    revert hon
                    revert wz
                    revert c15
                    revert A15
                    revert c8
                    revert A8
                    revert g14
                    revert g7
                    exact final ()
                · intro K9 hK9
                  go_simp
                  refine hK9.out _ _ (HS _ ((hon.alloc _).mono fun k _ h => .inr h)) (fun hHeld => ?_)
                  clear hK9 K9
                  (try simp only [Act.put, List.getElem_toArray, List.getElem_cons_succ, List.getElem_cons_zero, List.setIfInBounds_toArray, List.set_cons_zero, List.set_cons_succ])
                  obtain ⟨g14, hg⟩ : ∃ g, g = wz.heap.size := ⟨_, rfl⟩
                  obtain ⟨wn, hwn⟩ : ∃ x, x = wz.alloc (.cells #[.int .i64 m1, .int .i64 m2, .int .i64 mk, .int .i64 mc, .slice mA mf.length mp] 56 (0, 0)) := ⟨_, rfl⟩
                  have k14 : wn.heap[g14]? = some (.cells #[.int .i64 m1, .int .i64 m2, .int .i64 mk, .int .i64 mc, .slice mA mf.length mp] 56 (0, 0)) := by rw [hwn, hg]; exact heap_alloc_new _ _
                  have hbn : Below wz.heap.size wz wn := by rw [hwn]; exact (by repeat (first | with_reducible exact Below.refl _ _ | (with_reducible refine Below.drew ?_) | (with_reducible refine below_drewN ?_ _) | (with_reducible refine Below.alloc ?_ ?_ _; rotate_left; (first | omega | (simp <;> omega))) | (with_reducible refine Below.setCell ?_ ?_ _; rotate_left; (first | omega | (simp <;> omega)))))
                  rw [← hwn, ← hg]
                  clear hwn hg hHeld
                  replace hon := hon.trans (Only.of_below hbn)
                  replace oi := oi.below hbn
                  replace on := on.below hbn
                  replace hzw := Nat.le_trans hzw hbn.size
                  (try replace k7 := blk_below k7 hbn)
                  clear hbn
                  obtain ⟨wz, rfl⟩ : ∃ x, x = wn := ⟨_, rfl⟩
                  have hHeld := HS _ (hon.mono fun k _ h => .inr h)
                  refine wpAnyH_ready (rs := [7, 12]) (by kernel_rfl) (by simp) ?_
                  refine AllReadyH.cons (o := _) rfl ?_ (AllReadyH.cons (o := _) rfl ?_ (AllReadyH.nil))
                  · intro K9 hK9
                    go_simp
                    refine hK9.out _ _ (HS _ ((hon.alloc _).mono fun k _ h => .inr h)) (fun hHeld => ?_)
                    clear hK9 K9
                    (try simp only [Act.put, List.getElem_toArray, List.getElem_cons_succ, List.getElem_cons_zero, List.setIfInBounds_toArray, List.set_cons_zero, List.set_cons_succ])
                    obtain ⟨g7, hg⟩ : ∃ g, g = wz.heap.size := ⟨_, rfl⟩
                    obtain ⟨wn, hwn⟩ : ∃ x, x = wz.alloc (.cells #[.int .i64 x1, .int .i64 x2] 46 (0, 0)) := ⟨_, rfl⟩
                    have k7 : wn.heap[g7]? = some (.cells #[.int .i64 x1, .int .i64 x2] 46 (0, 0)) := by rw [hwn, hg]; exact heap_alloc_new _ _
                    have hbn : Below wz.heap.size wz wn := by rw [hwn]; exact (by repeat (first | with_reducible exact Below.refl _ _ | (with_reducible refine Below.drew ?_) | (with_reducible refine below_drewN ?_ _) | (with_reducible refine Below.alloc ?_ ?_ _; rotate_left; (first | omega | (simp <;> omega))) | (with_reducible refine Below.setCell ?_ ?_ _; rotate_left; (first | omega | (simp <;> omega)))))
                    rw [← hwn, ← hg]
                    clear hwn hg hHeld
                    replace hon := hon.trans (Only.of_below hbn)
                    replace oi := oi.below hbn
                    replace on := on.below hbn
                    replace hzw := Nat.le_trans hzw hbn.size
                    (try replace k14 := blk_below k14 hbn)
                    clear hbn
                    obtain ⟨wz, rfl⟩ : ∃ x, x = wn := ⟨_, rfl⟩
                    have hHeld := HS _ (hon.mono fun k _ h => .inr h)
                    refine wpAnyH_ready (rs := [8, 12]) (by kernel_rfl) (by simp) ?_
                    refine AllReadyH.cons (o := _) rfl ?_ (AllReadyH.cons (o := _) rfl ?_ (AllReadyH.nil))
                    · intro K9 hK9
                      refine step_app2 rfl (.tmp 54) (.tmp 56) (by rfl) IDE.enc idT _ _ [⟨x1, x2⟩] ids' (.slice iA' ids'.length iC') (by rfl) (by rfl) (m := 1) (n := ids'.length + 1) rfl rfl oi (blk_slAt IDE.enc (fr := (0, 0)) (e := 46) k7 [⟨x1, x2⟩] rfl) (by omega) (by unfold maxLen; omega) hzw ?_
                      intro A8 c8 wn ho8 hm8 hst8
                      have hv8 := own_new hst8.2 hon.size
                      have on' := own_grownOwn oi hst8.1 on (by decide)
                      (try replace k14 := heap_grownOwn oi hst8.1 k14 (by decide))
                      replace hzw := Nat.le_trans hzw (grown_size hst8.1)
                      replace hon := hon.trans' (only_grown hst8.1) (fun k _ h => .inl h)
                      clear oi on k7 hst8
                      have oi := ho8
                      have on := on'
                      clear ho8 on'
                      refine hK9.out _ _ (HS _ (hon.mono fun k _ h => .inr h)) (fun hHeld => ?_)
                      clear hK9 K9
                      (try simp only [Act.put, List.getElem_toArray, List.getElem_cons_succ, List.getElem_cons_zero, List.setIfInBounds_toArray, List.set_cons_zero, List.set_cons_succ])
                      obtain ⟨wz, rfl⟩ : ∃ x, x = wn := ⟨_, rfl⟩
                      refine wpAnyH_ready (rs := [12]) (by kernel_rfl) (by simp) ?_
                      refine AllReadyH.cons (o := _) rfl ?_ AllReadyH.nil
                      intro K9 hK9
                      obtain ⟨t0, t1⟩ := HT _ hon
                      go_simp
                      clear t0 t1
                      refine hK9.out _ _ (HS _ (hon.mono fun k _ h => .inr h)) (fun hHeld => ?_)
                      clear hK9 K9
                      (try simp only [Act.put, List.getElem_toArray, List.getElem_cons_succ, List.getElem_cons_zero, List.setIfInBounds_toArray, List.set_cons_zero, List.set_cons_succ])
                      refine wpAnyH_ready (rs := [15]) (by kernel_rfl) (by simp) ?_
                      refine AllReadyH.cons (o := _) rfl ?_ AllReadyH.nil
                      intro K9 hK9
                      refine step_app2 rfl (.tmp 61) (.tmp 63) (by rfl) NodeE.enc nodeTV _ _ [(⟨m1, m2, mk, mc, mA, mp, mf⟩ : NodeE)] (nodesE l ids') (.slice nA' ids'.length nC') (by rfl) (by rfl) (m := 1) (n := ids'.length + 1) rfl (by rw [nodesE_len]) on (blk_slAt NodeE.enc (fr := (0, 0)) (e := 56) k14 [(⟨m1, m2, mk, mc, mA, mp, mf⟩ : NodeE)] rfl) (by omega) (by unfold maxLen; omega) hzw ?_
                      intro A15 c15 wn ho15 hm15 hst15
                      have hv15 := own_new hst15.2 hon.size
                      have oi' := own_grownOwn on hst15.1 oi (by decide)
                      replace hzw := Nat.le_trans hzw (grown_size hst15.1)
                      replace hon := hon.trans' (only_grown hst15.1) (fun k _ h => .inr h)
                      clear oi on k14 hst15
                      have on := ho15
                      have oi := oi'
                      clear ho15 oi'
                      refine hK9.out _ _ (HS _ (hon.mono fun k _ h => .inr h)) (fun hHeld => ?_)
                      clear hK9 K9
                      (try simp only [Act.put, List.getElem_toArray, List.getElem_cons_succ, List.getElem_cons_zero, List.setIfInBounds_toArray, List.set_cons_zero, List.set_cons_succ])
                      obtain ⟨wz, rfl⟩ : ∃ x, x = wn := ⟨_, rfl⟩
                      refine wpAnyH_cast (l' := #[true, true, true, true, true, true, true, true, true, true, true, true, true, true, true, true, false, false, false, false, false, false]) (by kernel_rfl) ?_
                      clear hHeld hm8 hm15
                      revert hv15
                      revert hv8
                      revert hzw
                      revert on
                      revert oi
                      revert hon
                      revert wz
                      revert c15
                      revert A15
                      revert c8
                      revert A8
                      revert g14
                      revert g7
                      exact final ()
                    · intro K9 hK9
                      obtain ⟨t0, t1⟩ := HT _ hon
                      go_simp
                      clear t0 t1
                      refine hK9.out _ _ (HS _ (hon.mono fun k _ h => .inr h)) (fun hHeld => ?_)
                      clear hK9 K9
                      (try simp only [Act.put, List.getElem_toArray, List.getElem_cons_succ, List.getElem_cons_zero, List.setIfInBounds_toArray, List.set_cons_zero, List.set_cons_succ])
                      refine wpAnyH_ready (rs := [8]) (by kernel_rfl) (by simp) ?_
                      refine AllReadyH.cons (o := _) rfl ?_ AllReadyH.nil
                      intro K9 hK9
                      refine step_app2 rfl (.tmp 54) (.tmp 56) (by rfl) IDE.enc idT _ _ [⟨x1, x2⟩] ids' (.slice iA' ids'.length iC') (by rfl) (by rfl) (m := 1) (n := ids'.length + 1) rfl rfl oi (blk_slAt IDE.enc (fr := (0, 0)) (e := 46) k7 [⟨x1, x2⟩] rfl) (by omega) (by unfold maxLen; omega) hzw ?_
                      intro A8 c8 wn ho8 hm8 hst8
                      have hv8 := own_new hst8.2 hon.size
                      have on' := own_grownOwn oi hst8.1 on (by decide)
                      (try replace k14 := heap_grownOwn oi hst8.1 k14 (by decide))
                      replace hzw := Nat.le_trans hzw (grown_size hst8.1)
                      replace hon := hon.trans' (only_grown hst8.1) (fun k _ h => .inl h)
                      clear oi on k7 hst8
                      have oi := ho8
                      have on := on'
                      clear ho8 on'
                      refine hK9.out _ _ (HS _ (hon.mono fun k _ h => .inr h)) (fun hHeld => ?_)
                      clear hK9 K9
                      (try simp only [Act.put, List.getElem_toArray, List.getElem_cons_succ, List.getElem_cons_zero, List.setIfInBounds_toArray, List.set_cons_zero, List.set_cons_succ])
                      obtain ⟨wz, rfl⟩ : ∃ x, x = wn := ⟨_, rfl⟩
                      refine wpAnyH_ready (rs := [15]) (by kernel_rfl) (by simp) ?_
                      refine AllReadyH.cons (o := _) rfl ?_ AllReadyH.nil
                      intro K9 hK9
                      refine step_app2 rfl (.tmp 61) (.tmp 63) (by rfl) NodeE.enc nodeTV _ _ [(⟨m1, m2, mk, mc, mA, mp, mf⟩ : NodeE)] (nodesE l ids') (.slice nA' ids'.length nC') (by rfl) (by rfl) (m := 1) (n := ids'.length + 1) rfl (by rw [nodesE_len]) on (blk_slAt NodeE.enc (fr := (0, 0)) (e := 56) k14 [(⟨m1, m2, mk, mc, mA, mp, mf⟩ : NodeE)] rfl) (by omega) (by unfold maxLen; omega) hzw ?_
                      intro A15 c15 wn ho15 hm15 hst15
                      have hv15 := own_new hst15.2 hon.size
                      have oi' := own_grownOwn on hst15.1 oi (by decide)
                      replace hzw := Nat.le_trans hzw (grown_size hst15.1)
                      replace hon := hon.trans' (only_grown hst15.1) (fun k _ h => .inr h)
                      clear oi on k14 hst15
                      have on := ho15
                      have oi := oi'
                      clear ho15 oi'
                      refine hK9.out _ _ (HS _ (hon.mono fun k _ h => .inr h)) (fun hHeld => ?_)
                      clear hK9 K9
                      (try simp only [Act.put, List.getElem_toArray, List.getElem_cons_succ, List.getElem_cons_zero, List.setIfInBounds_toArray, List.set_cons_zero, List.set_cons_succ])
                      obtain ⟨wz, rfl⟩ : ∃ x, x = wn := ⟨_, rfl⟩
                      refine wpAnyH_cast (l' := #[true, true, true, true, true, true, true, true, true, true, true, true, true, true, true, true, false, false, false, false, false, false]) (by kernel_rfl) ?_
                      clear hHeld hm8 hm15
                      revert hv15
                      revert hv8
                      revert hzw
                      revert on
                      revert oi
                      revert hon
                      revert wz
                      revert c15
                      revert A15
                      revert c8
                      revert A8
                      revert g14
                      revert g7
                      exact final ()
                  · intro K9 hK9
                    obtain ⟨t0, t1⟩ := HT _ hon
                    go_simp
                    clear t0 t1
                    refine hK9.out _ _ (HS _ (hon.mono fun k _ h => .inr h)) (fun hHeld => ?_)
                    clear hK9 K9
                    (try simp only [Act.put, List.getElem_toArray, List.getElem_cons_succ, List.getElem_cons_zero, List.setIfInBounds_toArray, List.set_cons_zero, List.set_cons_succ])
                    refine wpAnyH_ready (rs := [7]) (by kernel_rfl) (by simp) ?_
                    refine AllReadyH.cons (o := _) rfl ?_ AllReadyH.nil
                    intro K9 hK9
                    go_simp
                    refine hK9.out _ _ (HS _ ((hon.alloc _).mono fun k _ h => .inr h)) (fun hHeld => ?_)
                    clear hK9 K9
                    (try simp only [Act.put, List.getElem_toArray, List.getElem_cons_succ, List.getElem_cons_zero, List.setIfInBounds_toArray, List.set_cons_zero, List.set_cons_succ])
                    obtain ⟨g7, hg⟩ : ∃ g, g = wz.heap.size := ⟨_, rfl⟩
                    obtain ⟨wn, hwn⟩ : ∃ x, x = wz.alloc (.cells #[.int .i64 x1, .int .i64 x2] 46 (0, 0)) := ⟨_, rfl⟩
                    have k7 : wn.heap[g7]? = some (.cells #[.int .i64 x1, .int .i64 x2] 46 (0, 0)) := by rw [hwn, hg]; exact heap_alloc_new _ _
                    have hbn : Below wz.heap.size wz wn := by rw [hwn]; exact (by repeat (first | with_reducible exact Below.refl _ _ | (with_reducible refine Below.drew ?_) | (with_reducible refine below_drewN ?_ _) | (with_reducible refine Below.alloc ?_ ?_ _; rotate_left; (first | omega | (simp <;> omega))) | (with_reducible refine Below.setCell ?_ ?_ _; rotate_left; (first | omega | (simp <;> omega)))))
                    rw [← hwn, ← hg]
                    clear hwn hg hHeld
                    replace hon := hon.trans (Only.of_below hbn)
                    replace oi := oi.below hbn
                    replace on := on.below hbn
                    replace hzw := Nat.le_trans hzw hbn.size
                    (try replace k14 := blk_below k14 hbn)
                    clear hbn
                    obtain ⟨wz, rfl⟩ : ∃ x, x = wn := ⟨_, rfl⟩
                    have hHeld := HS _ (hon.mono fun k _ h => .inr h)
                    refine wpAnyH_ready (rs := [8]) (by kernel_rfl) (by simp) ?_
                    refine AllReadyH.cons (o := _) rfl ?_ AllReadyH.nil
                    intro K9 hK9
                    refine step_app2 rfl (.tmp 54) (.tmp 56) (by rfl) IDE.enc idT _ _ [⟨x1, x2⟩] ids' (.slice iA' ids'.length iC') (by rfl) (by rfl) (m := 1) (n := ids'.length + 1) rfl rfl oi (blk_slAt IDE.enc (fr := (0, 0)) (e := 46) k7 [⟨x1, x2⟩] rfl) (by omega) (by unfold maxLen; omega) hzw ?_
                    intro A8 c8 wn ho8 hm8 hst8
                    have hv8 := own_new hst8.2 hon.size
                    have on' := own_grownOwn oi hst8.1 on (by decide)
                    (try replace k14 := heap_grownOwn oi hst8.1 k14 (by decide))
                    replace hzw := Nat.le_trans hzw (grown_size hst8.1)
                    replace hon := hon.trans' (only_grown hst8.1) (fun k _ h => .inl h)
                    clear oi on k7 hst8
                    have oi := ho8
                    have on := on'
                    clear ho8 on'
                    refine hK9.out _ _ (HS _ (hon.mono fun k _ h => .inr h)) (fun hHeld => ?_)
                    clear hK9 K9
                    (try simp only [Act.put, List.getElem_toArray, List.getElem_cons_succ, List.getElem_cons_zero, List.setIfInBounds_toArray, List.set_cons_zero, List.set_cons_succ])
                    obtain ⟨wz, rfl⟩ : ∃ x, x = wn := ⟨_, rfl⟩
                    refine wpAnyH_ready (rs := [15]) (by kernel_rfl) (by simp) ?_
                    refine AllReadyH.cons (o := _) rfl ?_ AllReadyH.nil
                    intro K9 hK9
                    refine step_app2 rfl (.tmp 61) (.tmp 63) (by rfl) NodeE.enc nodeTV _ _ [(⟨m1, m2, mk, mc, mA, mp, mf⟩ : NodeE)] (nodesE l ids') (.slice nA' ids'.length nC') (by rfl) (by rfl) (m := 1) (n := ids'.length + 1) rfl (by rw [nodesE_len]) on (blk_slAt NodeE.enc (fr := (0, 0)) (e := 56) k14 [(⟨m1, m2, mk, mc, mA, mp, mf⟩ : NodeE)] rfl) (by omega) (by unfold maxLen; omega) hzw ?_
                    intro A15 c15 wn ho15 hm15 hst15
                    have hv15 := own_new hst15.2 hon.size
                    have oi' := own_grownOwn on hst15.1 oi (by decide)
                    replace hzw := Nat.le_trans hzw (grown_size hst15.1)
                    replace hon := hon.trans' (only_grown hst15.1) (fun k _ h => .inr h)
                    clear oi on k14 hst15
                    have on := ho15
                    have oi := oi'
                    clear ho15 oi'
                    refine hK9.out _ _ (HS _ (hon.mono fun k _ h => .inr h)) (fun hHeld => ?_)
                    clear hK9 K9
                    (try simp only [Act.put, List.getElem_toArray, List.getElem_cons_succ, List.getElem_cons_zero, List.setIfInBounds_toArray, List.set_cons_zero, List.set_cons_succ])
                    obtain ⟨wz, rfl⟩ : ∃ x, x = wn := ⟨_, rfl⟩
                    refine wpAnyH_cast (l' := #[true, true, true, true, true, true, true, true, true, true, true, true, true, true, true, true, false, false, false, false, false, false]) (by kernel_rfl) ?_
                    clear hHeld hm8 hm15
                    revert hv15
                    revert hv8
                    revert hzw
                    revert on
                    revert oi
                    revert hon
                    revert wz
                    revert c15
                    revert A15
                    revert c8
                    revert A8
                    revert g14
                    revert g7
                    exact final ()
              · intro K9 hK9
                go_simp
                refine hK9.out _ _ (HS _ ((hon.alloc _).mono fun k _ h => .inr h)) (fun hHeld => ?_)
                clear hK9 K9
                (try simp only [Act.put, List.getElem_toArray, List.getElem_cons_succ, List.getElem_cons_zero, List.setIfInBounds_toArray, List.set_cons_zero, List.set_cons_succ])
                obtain ⟨g7, hg⟩ : ∃ g, g = wz.heap.size := ⟨_, rfl⟩
                obtain ⟨wn, hwn⟩ : ∃ x, x = wz.alloc (.cells #[.int .i64 x1, .int .i64 x2] 46 (0, 0)) := ⟨_, rfl⟩
                have k7 : wn.heap[g7]? = some (.cells #[.int .i64 x1, .int .i64 x2] 46 (0, 0)) := by rw [hwn, hg]; exact heap_alloc_new _ _
                have hbn : Below wz.heap.size wz wn := by rw [hwn]; exact (by repeat (first | with_reducible exact Below.refl _ _ | (with_reducible refine Below.drew ?_) | (with_reducible refine below_drewN ?_ _) | (with_reducible refine Below.alloc ?_ ?_ _; rotate_left; (first | omega | (simp <;> omega))) | (with_reducible refine Below.setCell ?_ ?_ _; rotate_left; (first | omega | (simp <;> omega)))))
                rw [← hwn, ← hg]
                clear hwn hg hHeld
                replace hon := hon.trans (Only.of_below hbn)
                replace oi := oi.below hbn
                replace on := on.below hbn
                replace hzw := Nat.le_trans hzw hbn.size
                (try replace k14 := blk_below k14 hbn)
                clear hbn
                obtain ⟨wz, rfl⟩ : ∃ x, x = wn := ⟨_, rfl⟩
                have hHeld := HS _ (hon.mono fun k _ h => .inr h)
                refine wpAnyH_ready (rs := [5, 12, 14]) (by kernel_rfl) (by simp) ?_
                refine AllReadyH.cons (o := _) rfl ?_ (AllReadyH.cons (o := _) rfl ?_ (AllReadyH.cons (o := _) rfl ?_ (AllReadyH.nil)))
                · intro K9 hK9
                  obtain ⟨t0, t1⟩ := HT _ hon
                  go_simp
                  clear t0 t1
                  refine hK9.out _ _ (HS _ (hon.mono fun k _ h => .inr h)) (fun hHeld => ?_)
                  clear hK9 K9
                  (try simp only [Act.put, List.getElem_toArray, List.getElem_cons_succ, List.getElem_cons_zero, List.setIfInBounds_toArray, List.set_cons_zero, List.set_cons_succ])
                  refine wpAnyH_ready (rs := [8, 12, 14]) (by kernel_rfl) (by simp) ?_
                  refine AllReadyH.cons (o := _) rfl ?_ (AllReadyH.cons (o := _) rfl ?_ (AllReadyH.cons (o := _) rfl ?_ (AllReadyH.nil)))
                  · intro K9 hK9
                    refine step_app2 rfl (.tmp 54) (.tmp 56) (by rfl) IDE.enc idT _ _ [⟨x1, x2⟩] ids' (.slice iA' ids'.length iC') (by rfl) (by rfl) (m := 1) (n := ids'.length + 1) rfl rfl oi (blk_slAt IDE.enc (fr := (0, 0)) (e := 46) k7 [⟨x1, x2⟩] rfl) (by omega) (by unfold maxLen; omega) hzw ?_
                    intro A8 c8 wn ho8 hm8 hst8
                    have hv8 := own_new hst8.2 hon.size
                    have on' := own_grownOwn oi hst8.1 on (by decide)
                    (try replace k14 := heap_grownOwn oi hst8.1 k14 (by decide))
                    replace hzw := Nat.le_trans hzw (grown_size hst8.1)
                    replace hon := hon.trans' (only_grown hst8.1) (fun k _ h => .inl h)
                    clear oi on k7 hst8
                    have oi := ho8
                    have on := on'
                    clear ho8 on'
                    refine hK9.out _ _ (HS _ (hon.mono fun k _ h => .inr h)) (fun hHeld => ?_)
                    clear hK9 K9
                    (try simp only [Act.put, List.getElem_toArray, List.getElem_cons_succ, List.getElem_cons_zero, List.setIfInBounds_toArray, List.set_cons_zero, List.set_cons_succ])
                    obtain ⟨wz, rfl⟩ : ∃ x, x = wn := ⟨_, rfl⟩
                    refine wpAnyH_ready (rs := [12, 14]) (by kernel_rfl) (by simp) ?_
                    refine AllReadyH.cons (o := _) rfl ?_ (AllReadyH.cons (o := _) rfl ?_ (AllReadyH.nil))
                    · intro K9 hK9
                      obtain ⟨t0, t1⟩ := HT _ hon
                      go_simp
                      clear t0 t1
                      refine hK9.out _ _ (HS _ (hon.mono fun k _ h => .inr h)) (fun hHeld => ?_)
                      clear hK9 K9
                      (try simp only [Act.put, List.getElem_toArray, List.getElem_cons_succ, List.getElem_cons_zero, List.setIfInBounds_toArray, List.set_cons_zero, List.set_cons_succ])
                      refine wpAnyH_ready (rs := [14]) (by kernel_rfl) (by simp) ?_
                      refine AllReadyH.cons (o := _) rfl ?_ AllReadyH.nil
                      intro K9 hK9
                      go_simp
                      refine hK9.out _ _ (HS _ ((hon.alloc _).mono fun k _ h => .inr h)) (fun hHeld => ?_)
                      clear hK9 K9
                      (try simp only [Act.put, List.getElem_toArray, List.getElem_cons_succ, List.getElem_cons_zero, List.setIfInBounds_toArray, List.set_cons_zero, List.set_cons_succ])
                      obtain ⟨g14, hg⟩ : ∃ g, g = wz.heap.size := ⟨_, rfl⟩
                      obtain ⟨wn, hwn⟩ : ∃ x, x = wz.alloc (.cells #[.int .i64 m1, .int .i64 m2, .int .i64 mk, .int .i64 mc, .slice mA mf.length mp] 56 (0, 0)) := ⟨_, rfl⟩
                      have k14 : wn.heap[g14]? = some (.cells #[.int .i64 m1, .int .i64 m2, .int .i64 mk, .int .i64 mc, .slice mA mf.length mp] 56 (0, 0)) := by rw [hwn, hg]; exact heap_alloc_new _ _
                      have hbn : Below wz.heap.size wz wn := by rw [hwn]; exact (by repeat (first | with_reducible exact Below.refl _ _ | (with_reducible refine Below.drew ?_) | (with_reducible refine below_drewN ?_ _) | (with_reducible refine Below.alloc ?_ ?_ _; rotate_left; (first | omega | (simp <;> omega))) | (with_reducible refine Below.setCell ?_ ?_ _; rotate_left; (first | omega | (simp <;> omega)))))
                      rw [← hwn, ← hg]
                      clear hwn hg hHeld
                      replace hon := hon.trans (Only.of_below hbn)
                      replace oi := oi.below hbn
                      replace on := on.below hbn
                      replace hzw := Nat.le_trans hzw hbn.size
                      (try replace k7 := blk_below k7 hbn)
                      clear hbn
                      obtain ⟨wz, rfl⟩ : ∃ x, x = wn := ⟨_, rfl⟩
                      have hHeld := HS _ (hon.mono fun k _ h => .inr h)
                      refine wpAnyH_ready (rs := [15]) (by kernel_rfl) (by simp) ?_
                      refine AllReadyH.cons (o := _) rfl ?_ AllReadyH.nil
                      intro K9 hK9
                      refine step_app2 rfl (.tmp 61) (.tmp 63) (by rfl) NodeE.enc nodeTV _ _ [(⟨m1, m2, mk, mc, mA, mp, mf⟩ : NodeE)] (nodesE l ids') (.slice nA' ids'.length nC') (by rfl) (by rfl) (m := 1) (n := ids'.length + 1) rfl (by rw [nodesE_len]) on (blk_slAt NodeE.enc (fr := (0, 0)) (e := 56) k14 [(⟨m1, m2, mk, mc, mA, mp, mf⟩ : NodeE)] rfl) (by omega) (by unfold maxLen; omega) hzw ?_
                      intro A15 c15 wn ho15 hm15 hst15
                      have hv15 := own_new hst15.2 hon.size
                      have oi' := own_grownOwn on hst15.1 oi (by decide)
                      replace hzw := Nat.le_trans hzw (grown_size hst15.1)
                      replace hon := hon.trans' (only_grown hst15.1) (fun k _ h => .inr h)
                      clear oi on k14 hst15
                      have on := ho15
                      have oi := oi'
                      clear ho15 oi'
                      refine hK9.out _ _ (HS _ (hon.mono fun k _ h => .inr h)) (fun hHeld => ?_)
                      clear hK9 K9
                      (try simp only [Act.put, List.getElem_toArray, List.getElem_cons_succ, List.getElem_cons_zero, List.setIfInBounds_toArray, List.set_cons_zero, List.set_cons_succ])
                      obtain ⟨wz, rfl⟩ : ∃ x, x = wn := ⟨_, rfl⟩
                      refine wpAnyH_cast (l' := #[true, true, true, true, true, true, true, true, true, true, true, true, true, true, true, true, false, false, false, false, false, false]) (by kernel_rfl) ?_
                      clear hHeld hm8 hm15
                      revert hv15
                      revert hv8
                      revert hzw
                      revert on
                      revert oi
                      revert hon
                      revert wz
                      revert c15
                      revert A15
                      revert c8
                      revert A8
                      revert g14
                      revert g7
                      exact final ()
                    · intro K9 hK9
                      go_simp
                      refine hK9.out _ _ (HS _ ((hon.alloc _).mono fun k _ h => .inr h)) (fun hHeld => ?_)
                      clear hK9 K9
                      (try simp only [Act.put, List.getElem_toArray, List.getElem_cons_succ, List.getElem_cons_zero, List.setIfInBounds_toArray, List.set_cons_zero, List.set_cons_succ])
                      obtain ⟨g14, hg⟩ : ∃ g, g = wz.heap.size := ⟨_, rfl⟩
                      obtain ⟨wn, hwn⟩ : ∃ x, x = wz.alloc (.cells #[.int .i64 m1, .int .i64 m2, .int .i64 mk, .int .i64 mc, .slice mA mf.length mp] 56 (0, 0)) := ⟨_, rfl⟩
                      have k14 : wn.heap[g14]? = some (.cells #[.int .i64 m1, .int .i64 m2, .int .i64 mk, .int .i64 mc, .slice mA mf.length mp] 56 (0, 0)) := by rw [hwn, hg]; exact heap_alloc_new _ _
                      have hbn : Below wz.heap.size wz wn := by rw [hwn]; exact (by repeat (first | with_reducible exact Below.refl _ _ | (with_reducible refine Below.drew ?_) | (with_reducible refine below_drewN ?_ _) | (with_reducible refine Below.alloc ?_ ?_ _; rotate_left; (first | omega | (simp <;> omega))) | (with_reducible refine Below.setCell ?_ ?_ _; rotate_left; (first | omega | (simp <;> omega)))))
                      rw [← hwn, ← hg]
                      clear hwn hg hHeld
                      replace hon := hon.trans (Only.of_below hbn)
                      replace oi := oi.below hbn
                      replace on := on.below hbn
                      replace hzw := Nat.le_trans hzw hbn.size
                      (try replace k7 := blk_below k7 hbn)
                      clear hbn
                      obtain ⟨wz, rfl⟩ : ∃ x, x = wn := ⟨_, rfl⟩
                      have hHeld := HS _ (hon.mono fun k _ h => .inr h)
                      refine wpAnyH_ready (rs := [12]) (by kernel_rfl) (by simp) ?_
                      refine AllReadyH.cons (o := _) rfl ?_ AllReadyH.nil
                      intro K9 hK9
                      obtain ⟨t0, t1⟩ := HT _ hon
                      go_simp
                      clear t0 t1
                      refine hK9.out _ _ (HS _ (hon.mono fun k _ h => .inr h)) (fun hHeld => ?_)
                      clear hK9 K9
                      (try simp only [Act.put, List.getElem_toArray, List.getElem_cons_succ, List.getElem_cons_zero, List.setIfInBounds_toArray, List.set_cons_zero, List.set_cons_succ])
                      refine wpAnyH_ready (rs := [15]) (by kernel_rfl) (by simp) ?_
                      refine AllReadyH.cons (o := _) rfl ?_ AllReadyH.nil
                      intro K9 hK9
                      refine step_app2 rfl (.tmp 61) (.tmp 63) (by rfl) NodeE.enc nodeTV _ _ [(⟨m1, m2, mk, mc, mA, mp, mf⟩ : NodeE)] (nodesE l ids') (.slice nA' ids'.length nC') (by rfl) (by rfl) (m := 1) (n := ids'.length + 1) rfl (by rw [nodesE_len]) on (blk_slAt NodeE.enc (fr := (0, 0)) (e := 56) k14 [(⟨m1, m2, mk, mc, mA, mp, mf⟩ : NodeE)] rfl) (by omega) (by unfold maxLen; omega) hzw ?_
                      intro A15 c15 wn ho15 hm15 hst15
                      have hv15 := own_new hst15.2 hon.size
                      have oi' := own_grownOwn on hst15.1 oi (by decide)
                      replace hzw := Nat.le_trans hzw (grown_size hst15.1)
                      replace hon := hon.trans' (only_grown hst15.1) (fun k _ h => .inr h)
                      clear oi on k14 hst15
                      have on := ho15
                      have oi := oi'
                      clear ho15 oi'
                      refine hK9.out _ _ (HS _ (hon.mono fun k _ h => .inr h)) (fun hHeld => ?_)
                      clear hK9 K9
                      (try simp only [Act.put, List.getElem_toArray, List.getElem_cons_succ, List.getElem_cons_zero, List.setIfInBounds_toArray, List.set_cons_zero, List.set_cons_succ])
                      obtain ⟨wz, rfl⟩ : ∃ x, x = wn := ⟨_, rfl⟩
                      refine wpAnyH_cast (l' := #[true, true, true, true, true, true, true, true, true, true, true, true, true, true, true, true, false, false, false, false, false, false]) (by kernel_rfl) ?_
                      clear hHeld hm8 hm15
                      revert hv15
                      revert hv8
                      revert hzw
                      revert on
                      revert oi
                      revert hon
                      revert wz
                      revert c15
                      revert A15
                      revert c8
                      revert A8
                      revert g14
                      revert g7
                      exact final ()
                  · intro K9 hK9
                    obtain ⟨t0, t1⟩ := HT _ hon
                    go_simp
                    clear t0 t1
                    refine hK9.out _ _ (HS _ (hon.mono fun k _ h => .inr h)) (fun hHeld => ?_)
                    clear hK9 K9
                    (try simp only [Act.put, List.getElem_toArray, List.getElem_cons_succ, List.getElem_cons_zero, List.setIfInBounds_toArray, List.set_cons_zero, List.set_cons_succ])
                    refine wpAnyH_ready (rs := [8, 14]) (by kernel_rfl) (by simp) ?_
                    refine AllReadyH.cons (o := _) rfl ?_ (AllReadyH.cons (o := _) rfl ?_ (AllReadyH.nil))
                    · intro K9 hK9
                      refine step_app2 rfl (.tmp 54) (.tmp 56) (by rfl) IDE.enc idT _ _ [⟨x1, x2⟩] ids' (.slice iA' ids'.length iC') (by rfl) (by rfl) (m := 1) (n := ids'.length + 1) rfl rfl oi (blk_slAt IDE.enc (fr := (0, 0)) (e := 46) k7 [⟨x1, x2⟩] rfl) (by omega) (by unfold maxLen; omega) hzw ?_
                      intro A8 c8 wn ho8 hm8 hst8
                      have hv8 := own_new hst8.2 hon.size
                      have on' := own_grownOwn oi hst8.1 on (by decide)
                      (try replace k14 := heap_grownOwn oi hst8.1 k14 (by decide))
                      replace hzw := Nat.le_trans hzw (grown_size hst8.1)
                      replace hon := hon.trans' (only_grown hst8.1) (fun k _ h => .inl h)
                      clear oi on k7 hst8
                      have oi := ho8
                      have on := on'
                      clear ho8 on'
                      refine hK9.out _ _ (HS _ (hon.mono fun k _ h => .inr h)) (fun hHeld => ?_)
                      clear hK9 K9
                      (try simp only [Act.put, List.getElem_toArray, List.getElem_cons_succ, List.getElem_cons_zero, List.setIfInBounds_toArray, List.set_cons_zero, List.set_cons_succ])
                      obtain ⟨wz, rfl⟩ : ∃ x, x = wn := ⟨_, rfl⟩
                      refine wpAnyH_ready (rs := [14]) (by kernel_rfl) (by simp) ?_
                      refine AllReadyH.cons (o := _) rfl ?_ AllReadyH.nil
                      intro K9 hK9
                      go_simp
                      refine hK9.out _ _ (HS _ ((hon.alloc _).mono fun k _ h => .inr h)) (fun hHeld => ?_)
                      clear hK9 K9
                      (try simp only [Act.put, List.getElem_toArray, List.getElem_cons_succ, List.getElem_cons_zero, List.setIfInBounds_toArray, List.set_cons_zero, List.set_cons_succ])
                      obtain ⟨g14, hg⟩ : ∃ g, g = wz.heap.size := ⟨_, rfl⟩
                      obtain ⟨wn, hwn⟩ : ∃ x, x = wz.alloc (.cells #[.int .i64 m1, .int .i64 m2, .int .i64 mk, .int .i64 mc, .slice mA mf.length mp] 56 (0, 0)) := ⟨_, rfl⟩
                      have k14 : wn.heap[g14]? = some (.cells #[.int .i64 m1, .int .i64 m2, .int .i64 mk, .int .i64 mc, .slice mA mf.length mp] 56 (0, 0)) := by rw [hwn, hg]; exact heap_alloc_new _ _
                      have hbn : Below wz.heap.size wz wn := by rw [hwn]; exact (by repeat (first | with_reducible exact Below.refl _ _ | (with_reducible refine Below.drew ?_) | (with_reducible refine below_drewN ?_ _) | (with_reducible refine Below.alloc ?_ ?_ _; rotate_left; (first | omega | (simp <;> omega))) | (with_reducible refine Below.setCell ?_ ?_ _; rotate_left; (first | omega | (simp <;> omega)))))
                      rw [← hwn, ← hg]
                      clear hwn hg hHeld
                      replace hon := hon.trans (Only.of_below hbn)
                      replace oi := oi.below hbn
                      replace on := on.below hbn
                      replace hzw := Nat.le_trans hzw hbn.size
                      (try replace k7 := blk_below k7 hbn)
                      clear hbn
                      obtain ⟨wz, rfl⟩ : ∃ x, x = wn := ⟨_, rfl⟩
                      have hHeld := HS _ (hon.mono fun k _ h => .inr h)
                      refine wpAnyH_ready (rs := [15]) (by kernel_rfl) (by simp) ?_
                      refine AllReadyH.cons (o := _) rfl ?_ AllReadyH.nil
                      intro K9 hK9
                      refine step_app2 rfl (.tmp 61) (.tmp 63) (by rfl) NodeE.enc nodeTV _ _ [(⟨m1, m2, mk, mc, mA, mp, mf⟩ : NodeE)] (nodesE l ids') (.slice nA' ids'.length nC') (by rfl) (by rfl) (m := 1) (n := ids'.length + 1) rfl (by rw [nodesE_len]) on (blk_slAt NodeE.enc (fr := (0, 0)) (e := 56) k14 [(⟨m1, m2, mk, mc, mA, mp, mf⟩ : NodeE)] rfl) (by omega) (by unfold maxLen; omega) hzw ?_
                      intro A15 c15 wn ho15 hm15 hst15
                      have hv15 := own_new hst15.2 hon.size
                      have oi' := own_grownOwn on hst15.1 oi (by decide)
                      replace hzw := Nat.le_trans hzw (grown_size hst15.1)
                      replace hon := hon.trans' (only_grown hst15.1) (fun k _ h => .inr h)
                      clear oi on k14 hst15
                      have on := ho15
                      have oi := oi'
                      clear ho15 oi'
                      refine hK9.out _ _ (HS _ (hon.mono fun k _ h => .inr h)) (fun hHeld => ?_)
                      clear hK9 K9
                      (try simp only [Act.put, List.getElem_toArray, List.getElem_cons_succ, List.getElem_cons_zero, List.setIfInBounds_toArray, List.set_cons_zero, List.set_cons_succ])
                      obtain ⟨wz, rfl⟩ : ∃ x, x = wn := ⟨_, rfl⟩
                      refine wpAnyH_cast (l' := #[true, true, true, true, true, true, true, true, true, true, true, true, true, true, true, true, false, false, false, false, false, false]) (by kernel_rfl) ?_
                      clear hHeld hm8 hm15
                      revert hv15
                      revert hv8
                      revert hzw
                      revert on
                      revert oi
                      revert hon
                      revert wz
                      revert c15
                      revert A15
                      revert c8
                      revert A8
                      revert g14
                      revert g7
                      exact final ()
                    · intro K9 hK9
                      go_simp
                      refine hK9.out _ _ (HS _ ((hon.alloc _).mono fun k _ h => .inr h)) (fun hHeld => ?_)
                      clear hK9 K9
                      (try simp only [Act.put, List.getElem_toArray, List.getElem_cons_succ, List.getElem_cons_zero, List.setIfInBounds_toArray, List.set_cons_zero, List.set_cons_succ])
                      obtain ⟨g14, hg⟩ : ∃ g, g = wz.heap.size := ⟨_, rfl⟩
                      obtain ⟨wn, hwn⟩ : ∃ x, x = wz.alloc (.cells #[.int .i64 m1, .int .i64 m2, .int .i64 mk, .int .i64 mc, .slice mA mf.length mp] 56 (0, 0)) := ⟨_, rfl⟩
                      have k14 : wn.heap[g14]? = some (.cells #[.int .i64 m1, .int .i64 m2, .int .i64 mk, .int .i64 mc, .slice mA mf.length mp] 56 (0, 0)) := by rw [hwn, hg]; exact heap_alloc_new _ _
                      have hbn : Below wz.heap.size wz wn := by rw [hwn]; exact (by repeat (first | with_reducible exact Below.refl _ _ | (with_reducible refine Below.drew ?_) | (with_reducible refine below_drewN ?_ _) | (with_reducible refine Below.alloc ?_ ?_ _; rotate_left; (first | omega | (simp <;> omega))) | (with_reducible refine Below.setCell ?_ ?_ _; rotate_left; (first | omega | (simp <;> omega)))))
                      rw [← hwn, ← hg]
                      clear hwn hg hHeld
                      replace hon := hon.trans (Only.of_below hbn)
                      replace oi := oi.below hbn
                      replace on := on.below hbn
                      replace hzw := Nat.le_trans hzw hbn.size
                      (try replace k7 := blk_below k7 hbn)
                      clear hbn
                      obtain ⟨wz, rfl⟩ : ∃ x, x = wn := ⟨_, rfl⟩
                      have hHeld := HS _ (hon.mono fun k _ h => .inr h)
                      refine wpAnyH_ready (rs := [8]) (by kernel_rfl) (by simp) ?_
                      refine AllReadyH.cons (o := _) rfl ?_ AllReadyH.nil
                      intro K9 hK9
                      refine step_app2 rfl (.tmp 54) (.tmp 56) (by rfl) IDE.enc idT _ _ [⟨x1, x2⟩] ids' (.slice iA' ids'.length iC') (by rfl) (by rfl) (m := 1) (n := ids'.length + 1) rfl rfl oi (blk_slAt IDE.enc (fr := (0, 0)) (e := 46) k7 [⟨x1, x2⟩] rfl) (by omega) (by unfold maxLen; omega) hzw ?_
                      intro A8 c8 wn ho8 hm8 hst8
                      have hv8 := own_new hst8.2 hon.size
                      have on' := own_grownOwn oi hst8.1 on (by decide)
                      (try replace k14 := heap_grownOwn oi hst8.1 k14 (by decide))
                      replace hzw := Nat.le_trans hzw (grown_size hst8.1)
                      replace hon := hon.trans' (only_grown hst8.1) (fun k _ h => .inl h)
                      clear oi on k7 hst8
                      have oi := ho8
                      have on := on'
                      clear ho8 on'
                      refine hK9.out _ _ (HS _ (hon.mono fun k _ h => .inr h)) (fun hHeld => ?_)
                      clear hK9 K9
                      (try simp only [Act.put, List.getElem_toArray, List.getElem_cons_succ, List.getElem_cons_zero, List.setIfInBounds_toArray, List.set_cons_zero, List.set_cons_succ])
                      obtain ⟨wz, rfl⟩ : ∃ x, x = wn := ⟨_, rfl⟩
                      refine wpAnyH_ready (rs := [15]) (by kernel_rfl) (by simp) ?_
                      refine AllReadyH.cons (o := _) rfl ?_ AllReadyH.nil
                      intro K9 hK9
                      refine step_app2 rfl (.tmp 61) (.tmp 63) (by rfl) NodeE.enc nodeTV _ _ [(⟨m1, m2, mk, mc, mA, mp, mf⟩ : NodeE)] (nodesE l ids') (.slice nA' ids'.length nC') (by rfl) (by rfl) (m := 1) (n := ids'.length + 1) rfl (by rw [nodesE_len]) on (blk_slAt NodeE.enc (fr := (0, 0)) (e := 56) k14 [(⟨m1, m2, mk, mc, mA, mp, mf⟩ : NodeE)] rfl) (by omega) (by unfold maxLen; omega) hzw ?_
                      intro A15 c15 wn ho15 hm15 hst15
                      have hv15 := own_new hst15.2 hon.size
                      have oi' := own_grownOwn on hst15.1 oi (by decide)
                      replace hzw := Nat.le_trans hzw (grown_size hst15.1)
                      replace hon := hon.trans' (only_grown hst15.1) (fun k _ h => .inr h)
                      clear oi on k14 hst15
                      have on := ho15
                      have oi := oi'
                      clear ho15 oi'
                      refine hK9.out _ _ (HS _ (hon.mono fun k _ h => .inr h)) (fun hHeld => ?_)
                      clear hK9 K9
                      (try simp only [Act.put, List.getElem_toArray, List.getElem_cons_succ, List.getElem_cons_zero, List.setIfInBounds_toArray, List.set_cons_zero, List.set_cons_succ])
                      obtain ⟨wz, rfl⟩ : ∃ x, x = wn := ⟨_, rfl⟩
                      refine wpAnyH_cast (l' := #[true, true, true, true, true, true, true, true, true, true, true, true, true, true, true, true, false, false, false, false, false, false]) (by kernel_rfl) ?_
                      clear hHeld hm8 hm15
                      revert hv15
                      revert hv8
                      revert hzw
                      revert on
                      revert oi
                      revert hon
                      revert wz
                      revert c15
                      revert A15
                      revert c8
                      revert A8
                      revert g14
                      revert g7
                      exact final ()
                  · intro K9 hK9
                    go_simp
                    refine hK9.out _ _ (HS _ ((hon.alloc _).mono fun k _ h => .inr h)) (fun hHeld => ?_)
                    clear hK9 K9
                    (try simp only [Act.put, List.getElem_toArray, List.getElem_cons_succ, List.getElem_cons_zero, List.setIfInBounds_toArray, List.set_cons_zero, List.set_cons_succ])
                    obtain ⟨g14, hg⟩ : ∃ g, g = wz.heap.size := ⟨_, rfl⟩
                    obtain ⟨wn, hwn⟩ : ∃ x, x = wz.alloc (.cells #[.int .i64 m1, .int .i64 m2, .int .i64 mk, .int .i64 mc, .slice mA mf.length mp] 56 (0, 0)) := ⟨_, rfl⟩
                    have k14 : wn.heap[g14]? = some (.cells #[.int .i64 m1, .int .i64 m2, .int .i64 mk, .int .i64 mc, .slice mA mf.length mp] 56 (0, 0)) := by rw [hwn, hg]; exact heap_alloc_new _ _
                    have hbn : Below wz.heap.size wz wn := by rw [hwn]; exact (by repeat (first | with_reducible exact Below.refl _ _ | (with_reducible refine Below.drew ?_) | (with_reducible refine below_drewN ?_ _) | (with_reducible refine Below.alloc ?_ ?_ _; rotate_left; (first | omega | (simp <;> omega))) | (with_reducible refine Below.setCell ?_ ?_ _; rotate_left; (first | omega | (simp <;> omega)))))
                    rw [← hwn, ← hg]
                    clear hwn hg hHeld
                    replace hon := hon.trans (Only.of_below hbn)
                    replace oi := oi.below hbn
                    replace on := on.below hbn
                    replace hzw := Nat.le_trans hzw hbn.size
                    (try replace k7 := blk_below k7 hbn)
                    clear hbn
                    obtain ⟨wz, rfl⟩ : ∃ x, x = wn := ⟨_, rfl⟩
                    have hHeld := HS _ (hon.mono fun k _ h => .inr h)
                    refine wpAnyH_ready (rs := [8, 12]) (by kernel_rfl) (by simp) ?_
                    refine AllReadyH.cons (o := _) rfl ?_ (AllReadyH.cons (o := _) rfl ?_ (AllReadyH.nil))
                    · intro K9 hK9
                      refine step_app2 rfl (.tmp 54) (.tmp 56) (by rfl) IDE.enc idT _ _ [⟨x1, x2⟩] ids' (.slice iA' ids'.length iC') (by rfl) (by rfl) (m := 1) (n := ids'.length + 1) rfl rfl oi (blk_slAt IDE.enc (fr := (0, 0)) (e := 46) k7 [⟨x1, x2⟩] rfl) (by omega) (by unfold maxLen; omega) hzw ?_
                      intro A8 c8 wn ho8 hm8 hst8
                      have hv8 := own_new hst8.2 hon.size
                      have on' := own_grownOwn oi hst8.1 on (by decide)
                      (try replace k14 := heap_grownOwn oi hst8.1 k14 (by decide))
                      replace hzw := Nat.le_trans hzw (grown_size hst8.1)
                      replace hon := hon.trans' (only_grown hst8.1) (fun k _ h => .inl h)
                      clear oi on k7 hst8
                      have oi := ho8
                      have on := on'
                      clear ho8 on'
                      refine hK9.out _ _ (HS _ (hon.mono fun k _ h => .inr h)) (fun hHeld => ?_)
                      clear hK9 K9
                      (try simp only [Act.put, List.getElem_toArray, List.getElem_cons_succ, List.getElem_cons_zero, List.setIfInBounds_toArray, List.set_cons_zero, List.set_cons_succ])
                      obtain ⟨wz, rfl⟩ : ∃ x, x = wn := ⟨_, rfl⟩
                      refine wpAnyH_ready (rs := [12]) (by kernel_rfl) (by simp) ?_
                      refine AllReadyH.cons (o := _) rfl ?_ AllReadyH.nil
                      intro K9 hK9
                      obtain ⟨t0, t1⟩ := HT _ hon
                      go_simp
                      clear t0 t1
                      refine hK9.out _ _ (HS _ (hon.mono fun k _ h => .inr h)) (fun hHeld => ?_)
                      clear hK9 K9
                      (try simp only [Act.put, List.getElem_toArray, List.getElem_cons_succ, List.getElem_cons_zero, List.setIfInBounds_toArray, List.set_cons_zero, List.set_cons_succ])
                      refine wpAnyH_ready (rs := [15]) (by kernel_rfl) (by simp) ?_
                      refine AllReadyH.cons (o := _) rfl ?_ AllReadyH.nil
                      intro K9 hK9
                      refine step_app2 rfl (.tmp 61) (.tmp 63) (by rfl) NodeE.enc nodeTV _ _ [(⟨m1, m2, mk, mc, mA, mp, mf⟩ : NodeE)] (nodesE l ids') (.slice nA' ids'.length nC') (by rfl) (by rfl) (m := 1) (n := ids'.length + 1) rfl (by rw [nodesE_len]) on (blk_slAt NodeE.enc (fr := (0, 0)) (e := 56) k14 [(⟨m1, m2, mk, mc, mA, mp, mf⟩ : NodeE)] rfl) (by omega) (by unfold maxLen; omega) hzw ?_
                      intro A15 c15 wn ho15 hm15 hst15
                      have hv15 := own_new hst15.2 hon.size
                      have oi' := own_grownOwn on hst15.1 oi (by decide)
                      replace hzw := Nat.le_trans hzw (grown_size hst15.1)
                      replace hon := hon.trans' (only_grown hst15.1) (fun k _ h => .inr h)
                      clear oi on k14 hst15
                      have on := ho15
                      have oi := oi'
                      clear ho15 oi'
                      refine hK9.out _ _ (HS _ (hon.mono fun k _ h => .inr h)) (fun hHeld => ?_)
                      clear hK9 K9
                      (try simp only [Act.put, List.getElem_toArray, List.getElem_cons_succ, List.getElem_cons_zero, List.setIfInBounds_toArray, List.set_cons_zero, List.set_cons_succ])
                      obtain ⟨wz, rfl⟩ : ∃ x, x = wn := ⟨_, rfl⟩
                      refine wpAnyH_cast (l' := #[true, true, true, true, true, true, true, true, true, true, true, true, true, true, true, true, false, false, false, false, false, false]) (by kernel_rfl) ?_
                      clear hHeld hm8 hm15
                      revert hv15
                      revert hv8
                      revert hzw
                      revert on
                      revert oi
                      revert hon
                      revert wz
                      revert c15
                      revert A15
                      revert c8
                      revert A8
                      revert g14
                      revert g7
                      exact final ()
                    · intro K9 hK9
                      obtain ⟨t0, t1⟩ := HT _ hon
                      go_simp
                      clear t0 t1
                      refine hK9.out _ _ (HS _ (hon.mono fun k _ h => .inr h)) (fun hHeld => ?_)
                      clear hK9 K9
                      (try simp only [Act.put, List.getElem_toArray, List.getElem_cons_succ, List.getElem_cons_zero, List.setIfInBounds_toArray, List.set_cons_zero, List.set_cons_succ])
                      refine wpAnyH_ready (rs := [8]) (by kernel_rfl) (by simp) ?_
                      refine AllReadyH.cons (o := _) rfl ?_ AllReadyH.nil
                      intro K9 hK9
                      refine step_app2 rfl (.tmp 54) (.tmp 56) (by rfl) IDE.enc idT _ _ [⟨x1, x2⟩] ids' (.slice iA' ids'.length iC') (by rfl) (by rfl) (m := 1) (n := ids'.length + 1) rfl rfl oi (blk_slAt IDE.enc (fr := (0, 0)) (e := 46) k7 [⟨x1, x2⟩] rfl) (by omega) (by unfold maxLen; omega) hzw ?_
                      intro A8 c8 wn ho8 hm8 hst8
                      have hv8 := own_new hst8.2 hon.size
                      have on' := own_grownOwn oi hst8.1 on (by decide)
                      (try replace k14 := heap_grownOwn oi hst8.1 k14 (by decide))
                      replace hzw := Nat.le_trans hzw (grown_size hst8.1)
                      replace hon := hon.trans' (only_grown hst8.1) (fun k _ h => .inl h)
                      clear oi on k7 hst8
                      have oi := ho8
                      have on := on'
                      clear ho8 on'
                      refine hK9.out _ _ (HS _ (hon.mono fun k _ h => .inr h)) (fun hHeld => ?_)
                      clear hK9 K9
                      (try simp only [Act.put, List.getElem_toArray, List.getElem_cons_succ, List.getElem_cons_zero, List.setIfInBounds_toArray, List.set_cons_zero, List.set_cons_succ])
                      obtain ⟨wz, rfl⟩ : ∃ x, x = wn := ⟨_, rfl⟩
                      refine wpAnyH_ready (rs := [15]) (by kernel_rfl) (by simp) ?_
                      refine AllReadyH.cons (o := _) rfl ?_ AllReadyH.nil
                      intro K9 hK9
                      refine step_app2 rfl (.tmp 61) (.tmp 63) (by rfl) NodeE.enc nodeTV _ _ [(⟨m1, m2, mk, mc, mA, mp, mf⟩ : NodeE)] (nodesE l ids') (.slice nA' ids'.length nC') (by rfl) (by rfl) (m := 1) (n := ids'.length + 1) rfl (by rw [nodesE_len]) on (blk_slAt NodeE.enc (fr := (0, 0)) (e := 56) k14 [(⟨m1, m2, mk, mc, mA, mp, mf⟩ : NodeE)] rfl) (by omega) (by unfold maxLen; omega) hzw ?_
                      intro A15 c15 wn ho15 hm15 hst15
                      have hv15 := own_new hst15.2 hon.size
                      have oi' := own_grownOwn on hst15.1 oi (by decide)
                      replace hzw := Nat.le_trans hzw (grown_size hst15.1)
                      replace hon := hon.trans' (only_grown hst15.1) (fun k _ h => .inr h)
                      clear oi on k14 hst15
                      have on := ho15
                      have oi := oi'
                      clear ho15 oi'
                      refine hK9.out _ _ (HS _ (hon.mono fun k _ h => .inr h)) (fun hHeld => ?_)
                      clear hK9 K9
                      (try simp only [Act.put, List.getElem_toArray, List.getElem_cons_succ, List.getElem_cons_zero, List.setIfInBounds_toArray, List.set_cons_zero, List.set_cons_succ])
                      obtain ⟨wz, rfl⟩ : ∃ x, x = wn := ⟨_, rfl⟩
                      refine wpAnyH_cast (l' := #[true, true, true, true, true, true, true, true, true, true, true, true, true, true, true, true, false, false, false, false, false, false]) (by kernel_rfl) ?_
                      clear hHeld hm8 hm15
                      revert hv15
                      revert hv8
                      revert hzw
                      revert on
                      revert oi
                      revert hon
                      revert wz
                      revert c15
                      revert A15
                      revert c8
                      revert A8
                      revert g14
                      revert g7
                      exact final ()
                · intro K9 hK9
                  obtain ⟨t0, t1⟩ := HT _ hon
                  go_simp
                  clear t0 t1
                  refine hK9.out _ _ (HS _ (hon.mono fun k _ h => .inr h)) (fun hHeld => ?_)
                  clear hK9 K9
                  (try simp only [Act.put, List.getElem_toArray, List.getElem_cons_succ, List.getElem_cons_zero, List.setIfInBounds_toArray, List.set_cons_zero, List.set_cons_succ])
                  refine wpAnyH_ready (rs := [5, 14]) (by kernel_rfl) (by simp) ?_
                  refine AllReadyH.cons (o := _) rfl ?_ (AllReadyH.cons (o := _) rfl ?_ (AllReadyH.nil))
                  · intro K9 hK9
                    obtain ⟨t0, t1⟩ := HT _ hon
                    go_simp
                    clear t0 t1
                    refine hK9.out _ _ (HS _ (hon.mono fun k _ h => .inr h)) (fun hHeld => ?_)
                    clear hK9 K9
                    (try simp only [Act.put, List.getElem_toArray, List.getElem_cons_succ, List.getElem_cons_zero, List.setIfInBounds_toArray, List.set_cons_zero, List.set_cons_succ])
                    refine wpAnyH_ready (rs := [8, 14]) (by kernel_rfl) (by simp) ?_
                    refine AllReadyH.cons (o := _) rfl ?_ (AllReadyH.cons (o := _) rfl ?_ (AllReadyH.nil))
                    · intro K9 hK9
                      refine step_app2 rfl (.tmp 54) (.tmp 56) (by rfl) IDE.enc idT _ _ [⟨x1, x2⟩] ids' (.slice iA' ids'.length iC') (by rfl) (by rfl) (m := 1) (n := ids'.length + 1) rfl rfl oi (blk_slAt IDE.enc (fr := (0, 0)) (e := 46) k7 [⟨x1, x2⟩] rfl) (by omega) (by unfold maxLen; omega) hzw ?_
                      intro A8 c8 wn ho8 hm8 hst8
                      have hv8 := own_new hst8.2 hon.size
                      have on' := own_grownOwn oi hst8.1 on (by decide)
                      (try replace k14 := heap_grownOwn oi hst8.1 k14 (by decide))
                      replace hzw := Nat.le_trans hzw (grown_size hst8.1)
                      replace hon := hon.trans' (only_grown hst8.1) (fun k _ h => .inl h)
                      clear oi on k7 hst8
                      have oi := ho8
                      have on := on'
                      clear ho8 on'
                      refine hK9.out _ _ (HS _ (hon.mono fun k _ h => .inr h)) (fun hHeld => ?_)
                      clear hK9 K9
                      (try simp only [Act.put, List.getElem_toArray, List.getElem_cons_succ, List.getElem_cons_zero, List.setIfInBounds_toArray, List.set_cons_zero, List.set_cons_succ])
                      obtain ⟨wz, rfl⟩ : ∃ x, x = wn := ⟨_, rfl⟩
                      refine wpAnyH_ready (rs := [14]) (by kernel_rfl) (by simp) ?_
                      refine AllReadyH.cons (o := _) rfl ?_ AllReadyH.nil
                      intro K9 hK9
                      go_simp
                      refine hK9.out _ _ (HS _ ((hon.alloc _).mono fun k _ h => .inr h)) (fun hHeld => ?_)
                      clear hK9 K9
                      (try simp only [Act.put, List.getElem_toArray, List.getElem_cons_succ, List.getElem_cons_zero, List.setIfInBounds_toArray, List.set_cons_zero, List.set_cons_succ])
                      obtain ⟨g14, hg⟩ : ∃ g, g = wz.heap.size := ⟨_, rfl⟩
                      obtain ⟨wn, hwn⟩ : ∃ x, x = wz.alloc (.cells #[.int .i64 m1, .int .i64 m2, .int .i64 mk, .int .i64 mc, .slice mA mf.length mp] 56 (0, 0)) := ⟨_, rfl⟩
                      have k14 : wn.heap[g14]? = some (.cells #[.int .i64 m1, .int .i64 m2, .int .i64 mk, .int .i64 mc, .slice mA mf.length mp] 56 (0, 0)) := by rw [hwn, hg]; exact heap_alloc_new _ _
                      have hbn : Below wz.heap.size wz wn := by rw [hwn]; exact (by repeat (first | with_reducible exact Below.refl _ _ | (with_reducible refine Below.drew ?_) | (with_reducible refine below_drewN ?_ _) | (with_reducible refine Below.alloc ?_ ?_ _; rotate_left; (first | omega | (simp <;> omega))) | (with_reducible refine Below.setCell ?_ ?_ _; rotate_left; (first | omega | (simp <;> omega)))))
                      rw [← hwn, ← hg]
                      clear hwn hg hHeld
                      replace hon := hon.trans (Only.of_below hbn)
                      replace oi := oi.below hbn
                      replace on := on.below hbn
                      replace hzw := Nat.le_trans hzw hbn.size
                      (try replace k7 := blk_below k7 hbn)
                      clear hbn
                      obtain ⟨wz, rfl⟩ : ∃ x, x = wn := ⟨_, rfl⟩
                      have hHeld := HS _ (hon.mono fun k _ h => .inr h)
                      refine wpAnyH_ready (rs := [15]) (by kernel_rfl) (by simp) ?_
                      refine AllReadyH.cons (o := _) rfl ?_ AllReadyH.nil
                      intro K9 hK9
                      refine step_app2 rfl (.tmp 61) (.tmp 63) (by rfl) NodeE.enc nodeTV _ _ [(⟨m1, m2, mk, mc, mA, mp, mf⟩ : NodeE)] (nodesE l ids') (.slice nA' ids'.length nC') (by rfl) (by rfl) (m := 1) (n := ids'.length + 1) rfl (by rw [nodesE_len]) on (blk_slAt NodeE.enc (fr := (0, 0)) (e := 56) k14 [(⟨m1, m2, mk, mc, mA, mp, mf⟩ : NodeE)] rfl) (by omega) (by unfold maxLen; omega) hzw ?_
                      intro A15 c15 wn ho15 hm15 hst15
                      have hv15 := own_new hst15.2 hon.size
                      have oi' := own_grownOwn on hst15.1 oi (by decide)
                      replace hzw := Nat.le_trans hzw (grown_size hst15.1)
                      replace hon := hon.trans' (only_grown hst15.1) (fun k _ h => .inr h)
                      clear oi on k14 hst15
                      have on := ho15
                      have oi := oi'
                      clear ho15 oi'
                      refine hK9.out _ _ (HS _ (hon.mono fun k _ h => .inr h)) (fun hHeld => ?_)
                      clear hK9 K9
                      (try simp only [Act.put, List.getElem_toArray, List.getElem_cons_succ, List.getElem_cons_zero, List.setIfInBounds_toArray, List.set_cons_zero, List.set_cons_succ])
                      obtain ⟨wz, rfl⟩ : ∃ x, x = wn := ⟨_, rfl⟩
                      refine wpAnyH_cast (l' := #[true, true, true, true, true, true, true, true, true, true, true, true, true, true, true, true, false, false, false, false, false, false]) (by kernel_rfl) ?_
                      clear hHeld hm8 hm15
                      revert hv15
                      revert hv8
                      revert hzw
                      revert on
                      revert oi
                      revert hon
                      revert wz
                      revert c15
                      revert A15
                      revert c8
                      revert A8
                      revert g14
                      revert g7
                      exact final ()
                    · intro K9 hK9
                      go_simp
                      refine hK9.out _ _ (HS _ ((hon.alloc _).mono fun k _ h => .inr h)) (fun hHeld => ?_)
                      clear hK9 K9
                      (try simp only [Act.put, List.getElem_toArray, List.getElem_cons_succ, List.getElem_cons_zero, List.setIfInBounds_toArray, List.set_cons_zero, List.set_cons_succ])
                      obtain ⟨g14, hg⟩ : ∃ g, g = wz.heap.size := ⟨_, rfl⟩
                      obtain ⟨wn, hwn⟩ : ∃ x, x = wz.alloc (.cells #[.int .i64 m1, .int .i64 m2, .int .i64 mk, .int .i64 mc, .slice mA mf.length mp] 56 (0, 0)) := ⟨_, rfl⟩
                      have k14 : wn.heap[g14]? = some (.cells #[.int .i64 m1, .int .i64 m2, .int .i64 mk, .int .i64 mc, .slice mA mf.length mp] 56 (0, 0)) := by rw [hwn, hg]; exact heap_alloc_new _ _
                      have hbn : Below wz.heap.size wz wn := by rw [hwn]; exact (by repeat (first | with_reducible exact Below.refl _ _ | (with_reducible refine Below.drew ?_) | (with_reducible refine below_drewN ?_ _) | (with_reducible refine Below.alloc ?_ ?_ _; rotate_left; (first | omega | (simp <;> omega))) | (with_reducible refine Below.setCell ?_ ?_ _; rotate_left; (first | omega | (simp <;> omega)))))
                      rw [← hwn, ← hg]
                      clear hwn hg hHeld
                      replace hon := hon.trans (Only.of_below hbn)
                      replace oi := oi.below hbn
                      replace on := on.below hbn
                      replace hzw := Nat.le_trans hzw hbn.size
                      (try replace k7 := blk_below k7 hbn)
                      clear hbn
                      obtain ⟨wz, rfl⟩ : ∃ x, x = wn := ⟨_, rfl⟩
                      have hHeld := HS _ (hon.mono fun k _ h => .inr h)
                      refine wpAnyH_ready (rs := [8]) (by kernel_rfl) (by simp) ?_
                      refine AllReadyH.cons (o := _) rfl ?_ AllReadyH.nil
                      intro K9 hK9
                      refine step_app2 rfl (.tmp 54) (.tmp 56) (by rfl) IDE.enc idT _ _ [⟨x1, x2⟩] ids' (.slice iA' ids'.length iC') (by rfl) (by rfl) (m := 1) (n := ids'.length + 1) rfl rfl oi (blk_slAt IDE.enc (fr := (0, 0)) (e := 46) k7 [⟨x1, x2⟩] rfl) (by omega) (by unfold maxLen; omega) hzw ?_
                      intro A8 c8 wn ho8 hm8 hst8
                      have hv8 := own_new hst8.2 hon.size
                      have on' := own_grownOwn oi hst8.1 on (by decide)
                      (try replace k14 := heap_grownOwn oi hst8.1 k14 (by decide))
                      replace hzw := Nat.le_trans hzw (grown_size hst8.1)
                      replace hon := hon.trans' (only_grown hst8.1) (fun k _ h => .inl h)
                      clear oi on k7 hst8
                      have oi := ho8
                      have on := on'
                      clear ho8 on'
                      refine hK9.out _ _ (HS _ (hon.mono fun k _ h => .inr h)) (fun hHeld => ?_)
                      clear hK9 K9
                      (try simp only [Act.put, List.getElem_toArray, List.getElem_cons_succ, List.getElem_cons_zero, List.setIfInBounds_toArray, List.set_cons_zero, List.set_cons_succ])
                      obtain ⟨wz, rfl⟩ : ∃ x, x = wn := ⟨_, rfl⟩
                      refine wpAnyH_ready (rs := [15]) (by kernel_rfl) (by simp) ?_
                      refine AllReadyH.cons (o := _) rfl ?_ AllReadyH.nil
                      intro K9 hK9
                      refine step_app2 rfl (.tmp 61) (.tmp 63) (by rfl) NodeE.enc nodeTV _ _ [(⟨m1, m2, mk, mc, mA, mp, mf⟩ : NodeE)] (nodesE l ids') (.slice nA' ids'.length nC') (by rfl) (by rfl) (m := 1) (n := ids'.length + 1) rfl (by rw [nodesE_len]) on (blk_slAt NodeE.enc (fr := (0, 0)) (e := 56) k14 [(⟨m1, m2, mk, mc, mA, mp, mf⟩ : NodeE)] rfl) (by omega) (by unfold maxLen; omega) hzw ?_
                      intro A15 c15 wn ho15 hm15 hst15
                      have hv15 := own_new hst15.2 hon.size
                      have oi' := own_grownOwn on hst15.1 oi (by decide)
                      replace hzw := Nat.le_trans hzw (grown_size hst15.1)
                      replace hon := hon.trans' (only_grown hst15.1) (fun k _ h => .inr h)
                      clear oi on k14 hst15
                      have on := ho15
                      have oi := oi'
                      clear ho15 oi'
                      refine hK9.out _ _ (HS _ (hon.mono fun k _ h => .inr h)) (fun hHeld => ?_)
                      clear hK9 K9
                      (try simp only [Act.put, List.getElem_toArray, List.getElem_cons_succ, List.getElem_cons_zero, List.setIfInBounds_toArray, List.set_cons_zero, List.set_cons_succ])
                      obtain ⟨wz, rfl⟩ : ∃ x, x = wn := ⟨_, rfl⟩
                      refine wpAnyH_cast (l' := #[true, true, true, true, true, true, true, true, true, true, true, true, true, true, true, true, false, false, false, false, false, false]) (by kernel_rfl) ?_
                      clear hHeld hm8 hm15
                      revert hv15
                      revert hv8
                      revert hzw
                      revert on
                      revert oi
                      revert hon
                      revert wz
                      revert c15
                      revert A15
                      revert c8
                      revert A8
                      revert g14
                      revert g7
                      exact final ()
                  · intro K9 hK9
                    go_simp
                    refine hK9.out _ _ (HS _ ((hon.alloc _).mono fun k _ h => .inr h)) (fun hHeld => ?_)
                    clear hK9 K9
                    (try simp only [Act.put, List.getElem_toArray, List.getElem_cons_succ, List.getElem_cons_zero, List.setIfInBounds_toArray, List.set_cons_zero, List.set_cons_succ])
                    obtain ⟨g14, hg⟩ : ∃ g, g = wz.heap.size := ⟨_, rfl⟩
                    obtain ⟨wn, hwn⟩ : ∃ x, x = wz.alloc (.cells #[.int .i64 m1, .int .i64 m2, .int .i64 mk, .int .i64 mc, .slice mA mf.length mp] 56 (0, 0)) := ⟨_, rfl⟩
                    have k14 : wn.heap[g14]? = some (.cells #[.int .i64 m1, .int .i64 m2, .int .i64 mk, .int .i64 mc, .slice mA mf.length mp] 56 (0, 0)) := by rw [hwn, hg]; exact heap_alloc_new _ _
                    have hbn : Below wz.heap.size wz wn := by rw [hwn]; exact (by repeat (first | with_reducible exact Below.refl _ _ | (with_reducible refine Below.drew ?_) | (with_reducible refine below_drewN ?_ _) | (with_reducible refine Below.alloc ?_ ?_ _; rotate_left; (first | omega | (simp <;> omega))) | (with_reducible refine Below.setCell ?_ ?_ _; rotate_left; (first | omega | (simp <;> omega)))))
                    rw [← hwn, ← hg]
                    clear hwn hg hHeld
                    replace hon := hon.trans (Only.of_below hbn)
                    replace oi := oi.below hbn
                    replace on := on.below hbn
                    replace hzw := Nat.le_trans hzw hbn.size
                    (try replace k7 := blk_below k7 hbn)
                    clear hbn
                    obtain ⟨wz, rfl⟩ : ∃ x, x = wn := ⟨_, rfl⟩
                    have hHeld := HS _ (hon.mono fun k _ h => .inr h)
                    refine wpAnyH_ready (rs := [5]) (by kernel_rfl) (by simp) ?_
                    refine AllReadyH.cons (o := _) rfl ?_ AllReadyH.nil
                    intro K9 hK9
                    obtain ⟨t0, t1⟩ := HT _ hon
                    go_simp
                    clear t0 t1
                    refine hK9.out _ _ (HS _ (hon.mono fun k _ h => .inr h)) (fun hHeld => ?_)
                    clear hK9 K9
                    (try simp only [Act.put, List.getElem_toArray, List.getElem_cons_succ, List.getElem_cons_zero, List.setIfInBounds_toArray, List.set_cons_zero, List.set_cons_succ])
                    refine wpAnyH_ready (rs := [8]) (by kernel_rfl) (by simp) ?_
                    refine AllReadyH.cons (o := _) rfl ?_ AllReadyH.nil
                    intro K9 hK9
                    refine step_app2 rfl (.tmp 54) (.tmp 56) (by rfl) IDE.enc idT _ _ [⟨x1, x2⟩] ids' (.slice iA' ids'.length iC') (by rfl) (by rfl) (m := 1) (n := ids'.length + 1) rfl rfl oi (blk_slAt IDE.enc (fr := (0, 0)) (e := 46) k7 [⟨x1, x2⟩] rfl) (by omega) (by unfold maxLen; omega) hzw ?_
                    intro A8 c8 wn ho8 hm8 hst8
                    have hv8 := own_new hst8.2 hon.size
                    have on' := own_grownOwn oi hst8.1 on (by decide)
                    (try replace k14 := heap_grownOwn oi hst8.1 k14 (by decide))
                    replace hzw := Nat.le_trans hzw (grown_size hst8.1)
                    replace hon := hon.trans' (only_grown hst8.1) (fun k _ h => .inl h)
                    clear oi on k7 hst8
                    have oi := ho8
                    have on := on'
                    clear ho8 on'
                    refine hK9.out _ _ (HS _ (hon.mono fun k _ h => .inr h)) (fun hHeld => ?_)
                    clear hK9 K9
                    (try simp only [Act.put, List.getElem_toArray, List.getElem_cons_succ, List.getElem_cons_zero, List.setIfInBounds_toArray, List.set_cons_zero, List.set_cons_succ])
                    obtain ⟨wz, rfl⟩ : ∃ x, x = wn := ⟨_, rfl⟩
                    refine wpAnyH_ready (rs := [15]) (by kernel_rfl) (by simp) ?_
                    refine AllReadyH.cons (o := _) rfl ?_ AllReadyH.nil
                    intro K9 hK9
                    refine step_app2 rfl (.tmp 61) (.tmp 63) (by rfl) NodeE.enc nodeTV _ _ [(⟨m1, m2, mk, mc, mA, mp, mf⟩ : NodeE)] (nodesE l ids') (.slice nA' ids'.length nC') (by rfl) (by rfl) (m := 1) (n := ids'.length + 1) rfl (by rw [nodesE_len]) on (blk_slAt NodeE.enc (fr := (0, 0)) (e := 56) k14 [(⟨m1, m2, mk, mc, mA, mp, mf⟩ : NodeE)] rfl) (by omega) (by unfold maxLen; omega) hzw ?_
                    intro A15 c15 wn ho15 hm15 hst15
                    have hv15 := own_new hst15.2 hon.size
                    have oi' := own_grownOwn on hst15.1 oi (by decide)
                    replace hzw := Nat.le_trans hzw (grown_size hst15.1)
                    replace hon := hon.trans' (only_grown hst15.1) (fun k _ h => .inr h)
                    clear oi on k14 hst15
                    have on := ho15
                    have oi := oi'
                    clear ho15 oi'
                    refine hK9.out _ _ (HS _ (hon.mono fun k _ h => .inr h)) (fun hHeld => ?_)
                    clear hK9 K9
                    (try simp only [Act.put, List.getElem_toArray, List.getElem_cons_succ, List.getElem_cons_zero, List.setIfInBounds_toArray, List.set_cons_zero, List.set_cons_succ])
                    obtain ⟨wz, rfl⟩ : ∃ x, x = wn := ⟨_, rfl⟩
                    refine wpAnyH_cast (l' := #[true, true, true, true, true, true, true, true, true, true, true, true, true, true, true, true, false, false, false, false, false, false]) (by kernel_rfl) ?_
                    clear hHeld hm8 hm15
                    revert hv15
                    revert hv8
                    revert hzw
                    revert on
                    revert oi
                    revert hon
                    revert wz
                    revert c15
                    revert A15
                    revert c8
                    revert A8
                    revert g14
                    revert g7
                    exact final ()
                · intro K9 hK9
                  go_simp
                  refine hK9.out _ _ (HS _ ((hon.alloc _).mono fun k _ h => .inr h)) (fun hHeld => ?_)
                  clear hK9 K9
                  (try simp only [Act.put, List.getElem_toArray, List.getElem_cons_succ, List.getElem_cons_zero, List.setIfInBounds_toArray, List.set_cons_zero, List.set_cons_succ])
                  obtain ⟨g14, hg⟩ : ∃ g, g = wz.heap.size := ⟨_, rfl⟩
                  obtain ⟨wn, hwn⟩ : ∃ x, x = wz.alloc (.cells #[.int .i64 m1, .int .i64 m2, .int .i64 mk, .int .i64 mc, .slice mA mf.length mp] 56 (0, 0)) := ⟨_, rfl⟩
                  have k14 : wn.heap[g14]? = some (.cells #[.int .i64 m1, .int .i64 m2, .int .i64 mk, .int .i64 mc, .slice mA mf.length mp] 56 (0, 0)) := by rw [hwn, hg]; exact heap_alloc_new _ _
                  have hbn : Below wz.heap.size wz wn := by rw [hwn]; exact (by repeat (first | with_reducible exact Below.refl _ _ | (with_reducible refine Below.drew ?_) | (with_reducible refine below_drewN ?_ _) | (with_reducible refine Below.alloc ?_ ?_ _; rotate_left; (first | omega | (simp <;> omega))) | (with_reducible refine Below.setCell ?_ ?_ _; rotate_left; (first | omega | (simp <;> omega)))))
                  rw [← hwn, ← hg]
                  clear hwn hg hHeld
                  replace hon := hon.trans (Only.of_below hbn)
                  replace oi := oi.below hbn
                  replace on := on.below hbn
                  replace hzw := Nat.le_trans hzw hbn.size
                  (try replace k7 := blk_below k7 hbn)
                  clear hbn
                  obtain ⟨wz, rfl⟩ : ∃ x, x = wn := ⟨_, rfl⟩
                  have hHeld := HS _ (hon.mono fun k _ h => .inr h)
                  refine wpAnyH_ready (rs := [5, 12]) (by kernel_rfl) (by simp) ?_
                  refine AllReadyH.cons (o := _) rfl ?_ (AllReadyH.cons (o := _) rfl ?_ (AllReadyH.nil))
                  · intro K9 hK9
                    obtain ⟨t0, t1⟩ := HT _ hon
                    go_simp
                    clear t0 t1
                    refine hK9.out _ _ (HS _ (hon.mono fun k _ h => .inr h)) (fun hHeld => ?_)
                    clear hK9 K9
                    (try simp only [Act.put, List.getElem_toArray, List.getElem_cons_succ, List.getElem_cons_zero, List.setIfInBounds_toArray, List.set_cons_zero, List.set_cons_succ])
                    refine wpAnyH_ready (rs := [8, 12]) (by kernel_rfl) (by simp) ?_
                    refine AllReadyH.cons (o := _) rfl ?_ (AllReadyH.cons (o := _) rfl ?_ (AllReadyH.nil))
                    · intro K9 hK9
                      refine step_app2 rfl (.tmp 54) (.tmp 56) (by rfl) IDE.enc idT _ _ [⟨x1, x2⟩] ids' (.slice iA' ids'.length iC') (by rfl) (by rfl) (m := 1) (n := ids'.length + 1) rfl rfl oi (blk_slAt IDE.enc (fr := (0, 0)) (e := 46) k7 [⟨x1, x2⟩] rfl) (by omega) (by unfold maxLen; omega) hzw ?_
                      intro A8 c8 wn ho8 hm8 hst8
                      have hv8 := own_new hst8.2 hon.size
                      have on' := own_grownOwn oi hst8.1 on (by decide)
                      (try replace k14 := heap_grownOwn oi hst8.1 k14 (by decide))
                      replace hzw := Nat.le_trans hzw (grown_size hst8.1)
                      replace hon := hon.trans' (only_grown hst8.1) (fun k _ h => .inl h)
                      clear oi on k7 hst8
                      have oi := ho8
                      have on := on'
                      clear ho8 on'
                      refine hK9.out _ _ (HS _ (hon.mono fun k _ h => .inr h)) (fun hHeld => ?_)
                      clear hK9 K9
                      (try simp only [Act.put, List.getElem_toArray, List.getElem_cons_succ, List.getElem_cons_zero, List.setIfInBounds_toArray, List.set_cons_zero, List.set_cons_succ])
                      obtain ⟨wz, rfl⟩ : ∃ x, x = wn := ⟨_, rfl⟩
                      refine wpAnyH_ready (rs := [12]) (by kernel_rfl) (by simp) ?_
                      refine AllReadyH.cons (o := _) rfl ?_ AllReadyH.nil
                      intro K9 hK9
                      obtain ⟨t0, t1⟩ := HT _ hon
                      go_simp
                      clear t0 t1
                      refine hK9.out _ _ (HS _ (hon.mono fun k _ h => .inr h)) (fun hHeld => ?_)
                      clear hK9 K9
                      (try simp only [Act.put, List.getElem_toArray, List.getElem_cons_succ, List.getElem_cons_zero, List.setIfInBounds_toArray, List.set_cons_zero, List.set_cons_succ])
                      refine wpAnyH_ready (rs := [15]) (by kernel_rfl) (by simp) ?_
                      refine AllReadyH.cons (o := _) rfl ?_ AllReadyH.nil
                      intro K9 hK9
                      refine step_app2 rfl (.tmp 61) (.tmp 63) (by rfl) NodeE.enc nodeTV _ _ [(⟨m1, m2, mk, mc, mA, mp, mf⟩ : NodeE)] (nodesE l ids') (.slice nA' ids'.length nC') (by rfl) (by rfl) (m := 1) (n := ids'.length + 1) rfl (by rw [nodesE_len]) on (blk_slAt NodeE.enc (fr := (0, 0)) (e := 56) k14 [(⟨m1, m2, mk, mc, mA, mp, mf⟩ : NodeE)] rfl) (by omega) (by unfold maxLen; omega) hzw ?_
                      intro A15 c15 wn ho15 hm15 hst15
                      have hv15 := own_new hst15.2 hon.size
                      have oi' := own_grownOwn on hst15.1 oi (by decide)
                      replace hzw := Nat.le_trans hzw (grown_size hst15.1)
                      replace hon := hon.trans' (only_grown hst15.1) (fun k _ h => .inr h)
                      clear oi on k14 hst15
                      have on := ho15
                      have oi := oi'
                      clear ho15 oi'
                      refine hK9.out _ _ (HS _ (hon.mono fun k _ h => .inr h)) (fun hHeld => ?_)
                      clear hK9 K9
                      (try simp only [Act.put, List.getElem_toArray, List.getElem_cons_succ, List.getElem_cons_zero, List.setIfInBounds_toArray, List.set_cons_zero, List.set_cons_succ])
                      obtain ⟨wz, rfl⟩ : ∃ x, x = wn := ⟨_, rfl⟩
                      refine wpAnyH_cast (l' := #[true, true, true, true, true, true, true, true, true, true, true, true, true, true, true, true, false, false, false, false, false, false]) (by kernel_rfl) ?_
                      clear hHeld hm8 hm15
                      revert hv15
                      revert hv8
                      revert hzw
                      revert on
                      revert oi
                      revert hon
                      revert wz
                      revert c15
                      revert A15
                      revert c8
                      revert A8
                      revert g14
                      revert g7
                      exact final ()
                    · intro K9 hK9
                      obtain ⟨t0, t1⟩ := HT _ hon
                      go_simp
                      clear t0 t1
                      refine hK9.out _ _ (HS _ (hon.mono fun k _ h => .inr h)) (fun hHeld => ?_)
                      clear hK9 K9
                      (try simp only [Act.put, List.getElem_toArray, List.getElem_cons_succ, List.getElem_cons_zero, List.setIfInBounds_toArray, List.set_cons_zero, List.set_cons_succ])
                      refine wpAnyH_ready (rs := [8]) (by kernel_rfl) (by simp) ?_
                      refine AllReadyH.cons (o := _) rfl ?_ AllReadyH.nil
                      intro K9 hK9
                      refine step_app2 rfl (.tmp 54) (.tmp 56) (by rfl) IDE.enc idT _ _ [⟨x1, x2⟩] ids' (.slice iA' ids'.length iC') (by rfl) (by rfl) (m := 1) (n := ids'.length + 1) rfl rfl oi (blk_slAt IDE.enc (fr := (0, 0)) (e := 46) k7 [⟨x1, x2⟩] rfl) (by omega) (by unfold maxLen; omega) hzw ?_
                      intro A8 c8 wn ho8 hm8 hst8
                      have hv8 := own_new hst8.2 hon.size
                      have on' := own_grownOwn oi hst8.1 on (by decide)
                      (try replace k14 := heap_grownOwn oi hst8.1 k14 (by decide))
                      replace hzw := Nat.le_trans hzw (grown_size hst8.1)
                      replace hon := hon.trans' (only_grown hst8.1) (fun k _ h => .inl h)
                      clear oi on k7 hst8
                      have oi := ho8
                      have on := on'
                      clear ho8 on'
                      refine hK9.out _ _ (HS _ (hon.mono fun k _ h => .inr h)) (fun hHeld => ?_)
                      clear hK9 K9
                      (try simp only [Act.put, List.getElem_toArray, List.getElem_cons_succ, List.getElem_cons_zero, List.setIfInBounds_toArray, List.set_cons_zero, List.set_cons_succ])
                      obtain ⟨wz, rfl⟩ : ∃ x, x = wn := ⟨_, rfl⟩
                      refine wpAnyH_ready (rs := [15]) (by kernel_rfl) (by simp) ?_
                      refine AllReadyH.cons (o := _) rfl ?_ AllReadyH.nil
                      intro K9 hK9
                      refine step_app2 rfl (.tmp 61) (.tmp 63) (by rfl) NodeE.enc nodeTV _ _ [(⟨m1, m2, mk, mc, mA, mp, mf⟩ : NodeE)] (nodesE l ids') (.slice nA' ids'.length nC') (by rfl) (by rfl) (m := 1) (n := ids'.length + 1) rfl (by rw [nodesE_len]) on (blk_slAt NodeE.enc (fr := (0, 0)) (e := 56) k14 [(⟨m1, m2, mk, mc, mA, mp, mf⟩ : NodeE)] rfl) (by omega) (by unfold maxLen; omega) hzw ?_
                      intro A15 c15 wn ho15 hm15 hst15
                      have hv15 := own_new hst15.2 hon.size
                      have oi' := own_grownOwn on hst15.1 oi (by decide)
                      replace hzw := Nat.le_trans hzw (grown_size hst15.1)
                      replace hon := hon.trans' (only_grown hst15.1) (fun k _ h => .inr h)
                      clear oi on k14 hst15
                      have on := ho15
                      have oi := oi'
                      clear ho15 oi'
                      refine hK9.out _ _ (HS _ (hon.mono fun k _ h => .inr h)) (fun hHeld => ?_)
                      clear hK9 K9
                      (try simp only [Act.put, List.getElem_toArray, List.getElem_cons_succ, List.getElem_cons_zero, List.setIfInBounds_toArray, List.set_cons_zero, List.set_cons_succ])
                      obtain ⟨wz, rfl⟩ : ∃ x, x = wn := ⟨_, rfl⟩
                      refine wpAnyH_cast (l' := #[true, true, true, true, true, true, true, true, true, true, true, true, true, true, true, true, false, false, false, false, false, false]) (by kernel_rfl) ?_
                      clear hHeld hm8 hm15
                      revert hv15
                      revert hv8
                      revert hzw
                      revert on
                      revert oi
                      revert hon
                      revert wz
                      revert c15
                      revert A15
                      revert c8
                      revert A8
                      revert g14
                      revert g7
                      exact final ()
                  · intro K9 hK9
                    obtain ⟨t0, t1⟩ := HT _ hon
                    go_simp
                    clear t0 t1
                    refine hK9.out _ _ (HS _ (hon.mono fun k _ h => .inr h)) (fun hHeld => ?_)
                    clear hK9 K9
                    (try simp only [Act.put, List.getElem_toArray, List.getElem_cons_succ, List.getElem_cons_zero, List.setIfInBounds_toArray, List.set_cons_zero, List.set_cons_succ])
                    refine wpAnyH_ready (rs := [5]) (by kernel_rfl) (by simp) ?_
                    refine AllReadyH.cons (o := _) rfl ?_ AllReadyH.nil
                    intro K9 hK9
                    obtain ⟨t0, t1⟩ := HT _ hon
                    go_simp
                    clear t0 t1
                    refine hK9.out _ _ (HS _ (hon.mono fun k _ h => .inr h)) (fun hHeld => ?_)
                    clear hK9 K9
                    (try simp only [Act.put, List.getElem_toArray, List.getElem_cons_succ, List.getElem_cons_zero, List.setIfInBounds_toArray, List.set_cons_zero, List.set_cons_succ])
                    refine wpAnyH_ready (rs := [8]) (by kernel_rfl) (by simp) ?_
                    refine AllReadyH.cons (o := _) rfl ?_ AllReadyH.nil
                    intro K9 hK9
                    refine step_app2 rfl (.tmp 54) (.tmp 56) (by rfl) IDE.enc idT _ _ [⟨x1, x2⟩] ids' (.slice iA' ids'.length iC') (by rfl) (by rfl) (m := 1) (n := ids'.length + 1) rfl rfl oi (blk_slAt IDE.enc (fr := (0, 0)) (e := 46) k7 [⟨x1, x2⟩] rfl) (by omega) (by unfold maxLen; omega) hzw ?_
                    intro A8 c8 wn ho8 hm8 hst8
                    have hv8 := own_new hst8.2 hon.size
                    have on' := own_grownOwn oi hst8.1 on (by decide)
                    (try replace k14 := heap_grownOwn oi hst8.1 k14 (by decide))
                    replace hzw := Nat.le_trans hzw (grown_size hst8.1)
                    replace hon := hon.trans' (only_grown hst8.1) (fun k _ h => .inl h)
                    clear oi on k7 hst8
                    have oi := ho8
                    have on := on'
                    clear ho8 on'
                    refine hK9.out _ _ (HS _ (hon.mono fun k _ h => .inr h)) (fun hHeld => ?_)
                    clear hK9 K9
                    (try simp only [Act.put, List.getElem_toArray, List.getElem_cons_succ, List.getElem_cons_zero, List.setIfInBounds_toArray, List.set_cons_zero, List.set_cons_succ])
                    obtain ⟨wz, rfl⟩ : ∃ x, x = wn := ⟨_, rfl⟩
                    refine wpAnyH_ready (rs := [15]) (by kernel_rfl) (by simp) ?_
                    refine AllReadyH.cons (o := _) rfl ?_ AllReadyH.nil
                    intro K9 hK9
                    refine step_app2 rfl (.tmp 61) (.tmp 63) (by rfl) NodeE.enc nodeTV _ _ [(⟨m1, m2, mk, mc, mA, mp, mf⟩ : NodeE)] (nodesE l ids') (.slice nA' ids'.length nC') (by rfl) (by rfl) (m := 1) (n := ids'.length + 1) rfl (by rw [nodesE_len]) on (blk_slAt NodeE.enc (fr := (0, 0)) (e := 56) k14 [(⟨m1, m2, mk, mc, mA, mp, mf⟩ : NodeE)] rfl) (by omega) (by unfold maxLen; omega) hzw ?_
                    intro A15 c15 wn ho15 hm15 hst15
                    have hv15 := own_new hst15.2 hon.size
                    have oi' := own_grownOwn on hst15.1 oi (by decide)
                    replace hzw := Nat.le_trans hzw (grown_size hst15.1)
                    replace hon := hon.trans' (only_grown hst15.1) (fun k _ h => .inr h)
                    clear oi on k14 hst15
                    have on := ho15
                    have oi := oi'
                    clear ho15 oi'
                    refine hK9.out _ _ (HS _ (hon.mono fun k _ h => .inr h)) (fun hHeld => ?_)
                    clear hK9 K9
                    (try simp only [Act.put, List.getElem_toArray, List.getElem_cons_succ, List.getElem_cons_zero, List.setIfInBounds_toArray, List.set_cons_zero, List.set_cons_succ])
                    obtain ⟨wz, rfl⟩ : ∃ x, x = wn := ⟨_, rfl⟩
                    refine wpAnyH_cast (l' := #[true, true, true, true, true, true, true, true, true, true, true, true, true, true, true, true, false, false, false, false, false, false]) (by kernel_rfl) ?_
                    clear hHeld hm8 hm15
                    revert hv15
                    revert hv8
                    revert hzw
                    revert on
                    revert oi
                    revert hon
                    revert wz
                    revert c15
                    revert A15
                    revert c8
                    revert A8
                    revert g14
                    revert g7
                    exact final ()
              · intro K9 hK9
                obtain ⟨t0, t1⟩ := HT _ hon
                go_simp
                clear t0 t1
                refine hK9.out _ _ (HS _ (hon.mono fun k _ h => .inr h)) (fun hHeld => ?_)
                clear hK9 K9
                (try simp only [Act.put, List.getElem_toArray, List.getElem_cons_succ, List.getElem_cons_zero, List.setIfInBounds_toArray, List.set_cons_zero, List.set_cons_succ])
                refine wpAnyH_ready (rs := [5, 7, 14]) (by kernel_rfl) (by simp) ?_
                refine AllReadyH.cons (o := _) rfl ?_ (AllReadyH.cons (o := _) rfl ?_ (AllReadyH.cons (o := _) rfl ?_ (AllReadyH.nil)))
                · intro K9 hK9
                  obtain ⟨t0, t1⟩ := HT _ hon
                  go_simp
                  clear t0 t1
                  refine hK9.out _ _ (HS _ (hon.mono fun k _ h => .inr h)) (fun hHeld => ?_)
                  clear hK9 K9
                  (try simp only [Act.put, List.getElem_toArray, List.getElem_cons_succ, List.getElem_cons_zero, List.setIfInBounds_toArray, List.set_cons_zero, List.set_cons_succ])
                  refine wpAnyH_ready (rs := [7, 14]) (by kernel_rfl) (by simp) ?_
                  refine AllReadyH.cons (o := _) rfl ?_ (AllReadyH.cons (o := _) rfl ?_ (AllReadyH.nil))
                  · intro K9 hK9
                    go_simp
                    refine hK9.out _ _ (HS _ ((hon.alloc _).mono fun k _ h => .inr h)) (fun hHeld => ?_)
                    clear hK9 K9
                    (try simp only [Act.put, List.getElem_toArray, List.getElem_cons_succ, List.getElem_cons_zero, List.setIfInBounds_toArray, List.set_cons_zero, List.set_cons_succ])
                    obtain ⟨g7, hg⟩ : ∃ g, g = wz.heap.size := ⟨_, rfl⟩
                    obtain ⟨wn, hwn⟩ : ∃ x, x = wz.alloc (.cells #[.int .i64 x1, .int .i64 x2] 46 (0, 0)) := ⟨_, rfl⟩
                    have k7 : wn.heap[g7]? = some (.cells #[.int .i64 x1, .int .i64 x2] 46 (0, 0)) := by rw [hwn, hg]; exact heap_alloc_new _ _
                    have hbn : Below wz.heap.size wz wn := by rw [hwn]; exact (by repeat (first | with_reducible exact Below.refl _ _ | (with_reducible refine Below.drew ?_) | (with_reducible refine below_drewN ?_ _) | (with_reducible refine Below.alloc ?_ ?_ _; rotate_left; (first | omega | (simp <;> omega))) | (with_reducible refine Below.setCell ?_ ?_ _; rotate_left; (first | omega | (simp <;> omega)))))
                    rw [← hwn, ← hg]
                    clear hwn hg hHeld
                    replace hon := hon.trans (Only.of_below hbn)
                    replace oi := oi.below hbn
                    replace on := on.below hbn
                    replace hzw := Nat.le_trans hzw hbn.size
                    (try replace k14 := blk_below k14 hbn)
                    clear hbn
                    obtain ⟨wz, rfl⟩ : ∃ x, x = wn := ⟨_, rfl⟩
                    have hHeld := HS _ (hon.mono fun k _ h => .inr h)
                    refine wpAnyH_ready (rs := [8, 14]) (by kernel_rfl) (by simp) ?_
                    refine AllReadyH.cons (o := _) rfl ?_ (AllReadyH.cons (o := _) rfl ?_ (AllReadyH.nil))
                    · intro K9 hK9
                      refine step_app2 rfl (.tmp 54) (.tmp 56) (by rfl) IDE.enc idT _ _ [⟨x1, x2⟩] ids' (.slice iA' ids'.length iC') (by rfl) (by rfl) (m := 1) (n := ids'.length + 1) rfl rfl oi (blk_slAt IDE.enc (fr := (0, 0)) (e := 46) k7 [⟨x1, x2⟩] rfl) (by omega) (by unfold maxLen; omega) hzw ?_
                      intro A8 c8 wn ho8 hm8 hst8
                      have hv8 := own_new hst8.2 hon.size
                      have on' := own_grownOwn oi hst8.1 on (by decide)
                      (try replace k14 := heap_grownOwn oi hst8.1 k14 (by decide))
                      replace hzw := Nat.le_trans hzw (grown_size hst8.1)
                      replace hon := hon.trans' (only_grown hst8.1) (fun k _ h => .inl h)
                      clear oi on k7 hst8
                      have oi := ho8
                      have on := on'
                      clear ho8 on'
                      refine hK9.out _ _ (HS _ (hon.mono fun k _ h => .inr h)) (fun hHeld => ?_)
                      clear hK9 K9
                      (try simp only [Act.put, List.getElem_toArray, List.getElem_cons_succ, List.getElem_cons_zero, List.setIfInBounds_toArray, List.set_cons_zero, List.set_cons_succ])
                      obtain ⟨wz, rfl⟩ : ∃ x, x = wn := ⟨_, rfl⟩
                      refine wpAnyH_ready (rs := [14]) (by kernel_rfl) (by simp) ?_
                      refine AllReadyH.cons (o := _) rfl ?_ AllReadyH.nil
                      intro K9 hK9
                      go_simp
                      refine hK9.out _ _ (HS _ ((hon.alloc _).mono fun k _ h => .inr h)) (fun hHeld => ?_)
                      clear hK9 K9
                      (try simp only [Act.put, List.getElem_toArray, List.getElem_cons_succ, List.getElem_cons_zero, List.setIfInBounds_toArray, List.set_cons_zero, List.set_cons_succ])
                      obtain ⟨g14, hg⟩ : ∃ g, g = wz.heap.size := ⟨_, rfl⟩
                      obtain ⟨wn, hwn⟩ : ∃ x, x = wz.alloc (.cells #[.int .i64 m1, .int .i64 m2, .int .i64 mk, .int .i64 mc, .slice mA mf.length mp] 56 (0, 0)) := ⟨_, rfl⟩
                      have k14 : wn.heap[g14]? = some (.cells #[.int .i64 m1, .int .i64 m2, .int .i64 mk, .int .i64 mc, .slice mA mf.length mp] 56 (0, 0)) := by rw [hwn, hg]; exact heap_alloc_new _ _
                      have hbn : Below wz.heap.size wz wn := by rw [hwn]; exact (by repeat (first | with_reducible exact Below.refl _ _ | (with_reducible refine Below.drew ?_) | (with_reducible refine below_drewN ?_ _) | (with_reducible refine Below.alloc ?_ ?_ _; rotate_left; (first | omega | (simp <;> omega))) | (with_reducible refine Below.setCell ?_ ?_ _; rotate_left; (first | omega | (simp <;> omega)))))
                      rw [← hwn, ← hg]
                      clear hwn hg hHeld
                      replace hon := hon.trans (Only.of_below hbn)
                      replace oi := oi.below hbn
                      replace on := on.below hbn
                      replace hzw := Nat.le_trans hzw hbn.size
                      (try replace k7 := blk_below k7 hbn)
                      clear hbn
                      obtain ⟨wz, rfl⟩ : ∃ x, x = wn := ⟨_, rfl⟩
                      have hHeld := HS _ (hon.mono fun k _ h => .inr h)
                      refine wpAnyH_ready (rs := [15]) (by kernel_rfl) (by simp) ?_
                      refine AllReadyH.cons (o := _) rfl ?_ AllReadyH.nil
                      intro K9 hK9
                      refine step_app2 rfl (.tmp 61) (.tmp 63) (by rfl) NodeE.enc nodeTV _ _ [(⟨m1, m2, mk, mc, mA, mp, mf⟩ : NodeE)] (nodesE l ids') (.slice nA' ids'.length nC') (by rfl) (by rfl) (m := 1) (n := ids'.length + 1) rfl (by rw [nodesE_len]) on (blk_slAt NodeE.enc (fr := (0, 0)) (e := 56) k14 [(⟨m1, m2, mk, mc, mA, mp, mf⟩ : NodeE)] rfl) (by omega) (by unfold maxLen; omega) hzw ?_
                      intro A15 c15 wn ho15 hm15 hst15
                      have hv15 := own_new hst15.2 hon.size
                      have oi' := own_grownOwn on hst15.1 oi (by decide)
                      replace hzw := Nat.le_trans hzw (grown_size hst15.1)
                      replace hon := hon.trans' (only_grown hst15.1) (fun k _ h => .inr h)
                      clear oi on k14 hst15
                      have on := ho15
                      have oi := oi'
                      clear ho15 oi'
                      refine hK9.out _ _ (HS _ (hon.mono fun k _ h => .inr h)) (fun hHeld => ?_)
                      clear hK9 K9
                      (try simp only [Act.put, List.getElem_toArray, List.getElem_cons_succ, List.getElem_cons_zero, List.setIfInBounds_toArray, List.set_cons_zero, List.set_cons_succ])
                      obtain ⟨wz, rfl⟩ : ∃ x, x = wn := ⟨_, rfl⟩
                      refine wpAnyH_cast (l' := #[true, true, true, true, true, true, true, true, true, true, true, true, true, true, true, true, false, false, false, false, false, false]) (by kernel_rfl) ?_
                      clear hHeld hm8 hm15
                      revert hv15
                      revert hv8
                      revert hzw
                      revert on
                      revert oi
                      revert hon
                      revert wz
                      revert c15
                      revert A15
                      revert c8
                      revert A8
                      revert g14
                      revert g7
                      exact final ()
                    · intro K9 hK9
                      go_simp
                      refine hK9.out _ _ (HS _ ((hon.alloc _).mono fun k _ h => .inr h)) (fun hHeld => ?_)
                      clear hK9 K9
                      (try simp only [Act.put, List.getElem_toArray, List.getElem_cons_succ, List.getElem_cons_zero, List.setIfInBounds_toArray, List.set_cons_zero, List.set_cons_succ])
                      obtain ⟨g14, hg⟩ : ∃ g, g = wz.heap.size := ⟨_, rfl⟩
                      obtain ⟨wn, hwn⟩ : ∃ x, x = wz.alloc (.cells #[.int .i64 m1, .int .i64 m2, .int .i64 mk, .int .i64 mc, .slice mA mf.length mp] 56 (0, 0)) := ⟨_, rfl⟩
                      have k14 : wn.heap[g14]? = some (.cells #[.int .i64 m1, .int .i64 m2, .int .i64 mk, .int .i64 mc, .slice mA mf.length mp] 56 (0, 0)) := by rw [hwn, hg]; exact heap_alloc_new _ _
                      have hbn : Below wz.heap.size wz wn := by rw [hwn]; exact (by repeat (first | with_reducible exact Below.refl _ _ | (with_reducible refine Below.drew ?_) | (with_reducible refine below_drewN ?_ _) | (with_reducible refine Below.alloc ?_ ?_ _; rotate_left; (first | omega | (simp <;> omega))) | (with_reducible refine Below.setCell ?_ ?_ _; rotate_left; (first | omega | (simp <;> omega)))))
                      rw [← hwn, ← hg]
                      clear hwn hg hHeld
                      replace hon := hon.trans (Only.of_below hbn)
                      replace oi := oi.below hbn
                      replace on := on.below hbn
                      replace hzw := Nat.le_trans hzw hbn.size
                      (try replace k7 := blk_below k7 hbn)
                      clear hbn
                      obtain ⟨wz, rfl⟩ : ∃ x, x = wn := ⟨_, rfl⟩
                      have hHeld := HS _ (hon.mono fun k _ h => .inr h)
                      refine wpAnyH_ready (rs := [8]) (by kernel_rfl) (by simp) ?_
                      refine AllReadyH.cons (o := _) rfl ?_ AllReadyH.nil
                      intro K9 hK9
                      refine step_app2 rfl (.tmp 54) (.tmp 56) (by rfl) IDE.enc idT _ _ [⟨x1, x2⟩] ids' (.slice iA' ids'.length iC') (by rfl) (by rfl) (m := 1) (n := ids'.length + 1) rfl rfl oi (blk_slAt IDE.enc (fr := (0, 0)) (e := 46) k7 [⟨x1, x2⟩] rfl) (by omega) (by unfold maxLen; omega) hzw ?_
                      intro A8 c8 wn ho8 hm8 hst8
                      have hv8 := own_new hst8.2 hon.size
                      have on' := own_grownOwn oi hst8.1 on (by decide)
                      (try replace k14 := heap_grownOwn oi hst8.1 k14 (by decide))
                      replace hzw := Nat.le_trans hzw (grown_size hst8.1)
                      replace hon := hon.trans' (only_grown hst8.1) (fun k _ h => .inl h)
                      clear oi on k7 hst8
                      have oi := ho8
                      have on := on'
                      clear ho8 on'
                      refine hK9.out _ _ (HS _ (hon.mono fun k _ h => .inr h)) (fun hHeld => ?_)
                      clear hK9 K9
                      (try simp only [Act.put, List.getElem_toArray, List.getElem_cons_succ, List.getElem_cons_zero, List.setIfInBounds_toArray, List.set_cons_zero, List.set_cons_succ])
                      obtain ⟨wz, rfl⟩ : ∃ x, x = wn := ⟨_, rfl⟩
                      refine wpAnyH_ready (rs := [15]) (by kernel_rfl) (by simp) ?_
                      refine AllReadyH.cons (o := _) rfl ?_ AllReadyH.nil
                      intro K9 hK9
                      refine step_app2 rfl (.tmp 61) (.tmp 63) (by rfl) NodeE.enc nodeTV _ _ [(⟨m1, m2, mk, mc, mA, mp, mf⟩ : NodeE)] (nodesE l ids') (.slice nA' ids'.length nC') (by rfl) (by rfl) (m := 1) (n := ids'.length + 1) rfl (by rw [nodesE_len]) on (blk_slAt NodeE.enc (fr := (0, 0)) (e := 56) k14 [(⟨m1, m2, mk, mc, mA, mp, mf⟩ : NodeE)] rfl) (by omega) (by unfold maxLen; omega) hzw ?_
                      intro A15 c15 wn ho15 hm15 hst15
                      have hv15 := own_new hst15.2 hon.size
                      have oi' := own_grownOwn on hst15.1 oi (by decide)
                      replace hzw := Nat.le_trans hzw (grown_size hst15.1)
                      replace hon := hon.trans' (only_grown hst15.1) (fun k _ h => .inr h)
                      clear oi on k14 hst15
                      have on := ho15
                      have oi := oi'
                      clear ho15 oi'
                      refine hK9.out _ _ (HS _ (hon.mono fun k _ h => .inr h)) (fun hHeld => ?_)
                      clear hK9 K9
                      (try simp only [Act.put, List.getElem_toArray, List.getElem_cons_succ, List.getElem_cons_zero, List.setIfInBounds_toArray, List.set_cons_zero, List.set_cons_succ])
                      obtain ⟨wz, rfl⟩ : ∃ x, x = wn := ⟨_, rfl⟩
                      refine wpAnyH_cast (l' := #[true, true, true, true, true, true, true, true, true, true, true, true, true, true, true, true, false, false, false, false, false, false]) (by kernel_rfl) ?_
                      clear hHeld hm8 hm15
                      revert hv15
                      revert hv8
                      revert hzw
                      revert on
                      revert oi
                      revert hon
                      revert wz
                      revert c15
                      revert A15
                      revert c8
                      revert A8
                      revert g14
                      revert g7
                      exact final ()
                  · intro K9 hK9
                    go_simp
                    refine hK9.out _ _ (HS _ ((hon.alloc _).mono fun k _ h => .inr h)) (fun hHeld => ?_)
                    clear hK9 K9
                    (try simp only [Act.put, List.getElem_toArray, List.getElem_cons_succ, List.getElem_cons_zero, List.setIfInBounds_toArray, List.set_cons_zero, List.set_cons_succ])
                    obtain ⟨g14, hg⟩ : ∃ g, g = wz.heap.size := ⟨_, rfl⟩
                    obtain ⟨wn, hwn⟩ : ∃ x, x = wz.alloc (.cells #[.int .i64 m1, .int .i64 m2, .int .i64 mk, .int .i64 mc, .slice mA mf.length mp] 56 (0, 0)) := ⟨_, rfl⟩
                    have k14 : wn.heap[g14]? = some (.cells #[.int .i64 m1, .int .i64 m2, .int .i64 mk, .int .i64 mc, .slice mA mf.length mp] 56 (0, 0)) := by rw [hwn, hg]; exact heap_alloc_new _ _
                    have hbn : Below wz.heap.size wz wn := by rw [hwn]; exact (by repeat (first | with_reducible exact Below.refl _ _ | (with_reducible refine Below.drew ?_) | (with_reducible refine below_drewN ?_ _) | (with_reducible refine Below.alloc ?_ ?_ _; rotate_left; (first | omega | (simp <;> omega))) | (with_reducible refine Below.setCell ?_ ?_ _; rotate_left; (first | omega | (simp <;> omega)))))
                    rw [← hwn, ← hg]
                    clear hwn hg hHeld
                    replace hon := hon.trans (Only.of_below hbn)
                    replace oi := oi.below hbn
                    replace on := on.below hbn
                    replace hzw := Nat.le_trans hzw hbn.size
                    (try replace k7 := blk_below k7 hbn)
                    clear hbn
                    obtain ⟨wz, rfl⟩ : ∃ x, x = wn := ⟨_, rfl⟩
                    have hHeld := HS _ (hon.mono fun k _ h => .inr h)
                    refine wpAnyH_ready (rs := [7]) (by kernel_rfl) (by simp) ?_
                    refine AllReadyH.cons (o := _) rfl ?_ AllReadyH.nil
                    intro K9 hK9
                    go_simp
                    refine hK9.out _ _ (HS _ ((hon.alloc _).mono fun k _ h => .inr h)) (fun hHeld => ?_)
                    clear hK9 K9
                    (try simp only [Act.put, List.getElem_toArray, List.getElem_cons_succ, List.getElem_cons_zero, List.setIfInBounds_toArray, List.set_cons_zero, List.set_cons_succ])
                    obtain ⟨g7, hg⟩ : ∃ g, g = wz.heap.size := ⟨_, rfl⟩
                    obtain ⟨wn, hwn⟩ : ∃ x, x = wz.alloc (.cells #[.int .i64 x1, .int .i64 x2] 46 (0, 0)) := ⟨_, rfl⟩
                    have k7 : wn.heap[g7]? = some (.cells #[.int .i64 x1, .int .i64 x2] 46 (0, 0)) := by rw [hwn, hg]; exact heap_alloc_new _ _
                    have hbn : Below wz.heap.size wz wn := by rw [hwn]; exact (by repeat (first | with_reducible exact Below.refl _ _ | (with_reducible refine Below.drew ?_) | (with_reducible refine below_drewN ?_ _) | (with_reducible refine Below.alloc ?_ ?_ _; rotate_left; (first | omega | (simp <;> omega))) | (with_reducible refine Below.setCell ?_ ?_ _; rotate_left; (first | omega | (simp <;> omega)))))
                    rw [← hwn, ← hg]
                    clear hwn hg hHeld
                    replace hon := hon.trans (Only.of_below hbn)
                    replace oi := oi.below hbn
                    replace on := on.below hbn
                    replace hzw := Nat.le_trans hzw hbn.size
                    (try replace k14 := blk_below k14 hbn)
                    clear hbn
                    obtain ⟨wz, rfl⟩ : ∃ x, x = wn := ⟨_, rfl⟩
                    have hHeld := HS _ (hon.mono fun k _ h => .inr h)
                    refine wpAnyH_ready (rs := [8]) (by kernel_rfl) (by simp) ?_
                    refine AllReadyH.cons (o := _) rfl ?_ AllReadyH.nil
                    intro K9 hK9
                    refine step_app2 rfl (.tmp 54) (.tmp 56) (by rfl) IDE.enc idT _ _ [⟨x1, x2⟩] ids' (.slice iA' ids'.length iC') (by rfl) (by rfl) (m := 1) (n := ids'.length + 1) rfl rfl oi (blk_slAt IDE.enc (fr := (0, 0)) (e := 46) k7 [⟨x1, x2⟩] rfl) (by omega) (by unfold maxLen; omega) hzw ?_
                    intro A8 c8 wn ho8 hm8 hst8
                    have hv8 := own_new hst8.2 hon.size
                    have on' := own_grownOwn oi hst8.1 on (by decide)
                    (try replace k14 := heap_grownOwn oi hst8.1 k14 (by decide))
                    replace hzw := Nat.le_trans hzw (grown_size hst8.1)
                    replace hon := hon.trans' (only_grown hst8.1) (fun k _ h => .inl h)
                    clear oi on k7 hst8
                    have oi := ho8
                    have on := on'
                    clear ho8 on'
                    refine hK9.out _ _ (HS _ (hon.mono fun k _ h => .inr h)) (fun hHeld => ?_)
                    clear hK9 K9
                    (try simp only [Act.put, List.getElem_toArray, List.getElem_cons_succ, List.getElem_cons_zero, List.setIfInBounds_toArray, List.set_cons_zero, List.set_cons_succ])
                    obtain ⟨wz, rfl⟩ : ∃ x, x = wn := ⟨_, rfl⟩
                    refine wpAnyH_ready (rs := [15]) (by kernel_rfl) (by simp) ?_
                    refine AllReadyH.cons (o := _) rfl ?_ AllReadyH.nil
                    intro K9 hK9
                    refine step_app2 rfl (.tmp 61) (.tmp 63) (by rfl) NodeE.enc nodeTV _ _ [(⟨m1, m2, mk, mc, mA, mp, mf⟩ : NodeE)] (nodesE l ids') (.slice nA' ids'.length nC') (by rfl) (by rfl) (m := 1) (n := ids'.length + 1) rfl (by rw [nodesE_len]) on (blk_slAt NodeE.enc (fr := (0, 0)) (e := 56) k14 [(⟨m1, m2, mk, mc, mA, mp, mf⟩ : NodeE)] rfl) (by omega) (by unfold maxLen; omega) hzw ?_
                    intro A15 c15 wn ho15 hm15 hst15
                    have hv15 := own_new hst15.2 hon.size
                    have oi' := own_grownOwn on hst15.1 oi (by decide)
                    replace hzw := Nat.le_trans hzw (grown_size hst15.1)
                    replace hon := hon.trans' (only_grown hst15.1) (fun k _ h => .inr h)
                    clear oi on k14 hst15
                    have on := ho15
                    have oi := oi'
                    clear ho15 oi'
                    refine hK9.out _ _ (HS _ (hon.mono fun k _ h => .inr h)) (fun hHeld => ?_)
                    clear hK9 K9
                    (try simp only [Act.put, List.getElem_toArray, List.getElem_cons_succ, List.getElem_cons_zero, List.setIfInBounds_toArray, List.set_cons_zero, List.set_cons_succ])
                    obtain ⟨wz, rfl⟩ : ∃ x, x = wn := ⟨_, rfl⟩
                    refine wpAnyH_cast (l' := #[true, true, true, true, true, true, true, true, true, true, true, true, true, true, true, true, false, false, false, false, false, false]) (by kernel_rfl) ?_
                    clear hHeld hm8 hm15
                    revert hv15
                    revert hv8
                    revert hzw
                    revert on
                    revert oi
                    revert hon
                    revert wz
                    revert c15
                    revert A15
                    revert c8
                    revert A8
                    revert g14
                    revert g7
                    exact final ()
                · intro K9 hK9
                  go_simp
                  refine hK9.out _ _ (HS _ ((hon.alloc _).mono fun k _ h => .inr h)) (fun hHeld => ?_)
                  clear hK9 K9
                  (try simp only [Act.put, List.getElem_toArray, List.getElem_cons_succ, List.getElem_cons_zero, List.setIfInBounds_toArray, List.set_cons_zero, List.set_cons_succ])
                  obtain ⟨g7, hg⟩ : ∃ g, g = wz.heap.size := ⟨_, rfl⟩
                  obtain ⟨wn, hwn⟩ : ∃ x, x = wz.alloc (.cells #[.int .i64 x1, .int .i64 x2] 46 (0, 0)) := ⟨_, rfl⟩
                  have k7 : wn.heap[g7]? = some (.cells #[.int .i64 x1, .int .i64 x2] 46 (0, 0)) := by rw [hwn, hg]; exact heap_alloc_new _ _
                  have hbn : Below wz.heap.size wz wn := by rw [hwn]; exact (by repeat (first | with_reducible exact Below.refl _ _ | (with_reducible refine Below.drew ?_) | (with_reducible refine below_drewN ?_ _) | (with_reducible refine Below.alloc ?_ ?_ _; rotate_left; (first | omega | (simp <;> omega))) | (with_reducible refine Below.setCell ?_ ?_ _; rotate_left; (first | omega | (simp <;> omega)))))
                  rw [← hwn, ← hg]
                  clear hwn hg hHeld
                  replace hon := hon.trans (Only.of_below hbn)
                  replace oi := oi.below hbn
                  replace on := on.below hbn
                  replace hzw := Nat.le_trans hzw hbn.size
                  (try replace k14 := blk_below k14 hbn)
                  clear hbn
                  obtain ⟨wz, rfl⟩ : ∃ x, x = wn := ⟨_, rfl⟩
                  have hHeld := HS _ (hon.mono fun k _ h => .inr h)
                  refine wpAnyH_ready (rs := [5, 14]) (by kernel_rfl) (by simp) ?_
                  refine AllReadyH.cons (o := _) rfl ?_ (AllReadyH.cons (o := _) rfl ?_ (AllReadyH.nil))
                  · intro K9 hK9
                    obtain ⟨t0, t1⟩ := HT _ hon
                    go_simp
                    clear t0 t1
                    refine hK9.out _ _ (HS _ (hon.mono fun k _ h => .inr h)) (fun hHeld => ?_)
                    clear hK9 K9
                    (try simp only [Act.put, List.getElem_toArray, List.getElem_cons_succ, List.getElem_cons_zero, List.setIfInBounds_toArray, List.set_cons_zero, List.set_cons_succ])
                    refine wpAnyH_ready (rs := [8, 14]) (by kernel_rfl) (by simp) ?_
                    refine AllReadyH.cons (o := _) rfl ?_ (AllReadyH.cons (o := _) rfl ?_ (AllReadyH.nil))
                    · intro K9 hK9
                      refine step_app2 rfl (.tmp 54) (.tmp 56) (by rfl) IDE.enc idT _ _ [⟨x1, x2⟩] ids' (.slice iA' ids'.length iC') (by rfl) (by rfl) (m := 1) (n := ids'.length + 1) rfl rfl oi (blk_slAt IDE.enc (fr := (0, 0)) (e := 46) k7 [⟨x1, x2⟩] rfl) (by omega) (by unfold maxLen; omega) hzw ?_
                      intro A8 c8 wn ho8 hm8 hst8
                      have hv8 := own_new hst8.2 hon.size
                      have on' := own_grownOwn oi hst8.1 on (by decide)
                      (try replace k14 := heap_grownOwn oi hst8.1 k14 (by decide))
                      replace hzw := Nat.le_trans hzw (grown_size hst8.1)
                      replace hon := hon.trans' (only_grown hst8.1) (fun k _ h => .inl h)
                      clear oi on k7 hst8
                      have oi := ho8
                      have on := on'
                      clear ho8 on'
                      refine hK9.out _ _ (HS _ (hon.mono fun k _ h => .inr h)) (fun hHeld => ?_)
                      clear hK9 K9
                      (try simp only [Act.put, List.getElem_toArray, List.getElem_cons_succ, List.getElem_cons_zero, List.setIfInBounds_toArray, List.set_cons_zero, List.set_cons_succ])
                      obtain ⟨wz, rfl⟩ : ∃ x, x = wn := ⟨_, rfl⟩
                      refine wpAnyH_ready (rs := [14]) (by kernel_rfl) (by simp) ?_
                      refine AllReadyH.cons (o := _) rfl ?_ AllReadyH.nil
                      intro K9 hK9
                      go_simp
                      refine hK9.out _ _ (HS _ ((hon.alloc _).mono fun k _ h => .inr h)) (fun hHeld => ?_)
                      clear hK9 K9
                      (try simp only [Act.put, List.getElem_toArray, List.getElem_cons_succ, List.getElem_cons_zero, List.setIfInBounds_toArray, List.set_cons_zero, List.set_cons_succ])
                      obtain ⟨g14, hg⟩ : ∃ g, g = wz.heap.size := ⟨_, rfl⟩
                      obtain ⟨wn, hwn⟩ : ∃ x, x = wz.alloc (.cells #[.int .i64 m1, .int .i64 m2, .int .i64 mk, .int .i64 mc, .slice mA mf.length mp] 56 (0, 0)) := ⟨_, rfl⟩
                      have k14 : wn.heap[g14]? = some (.cells #[.int .i64 m1, .int .i64 m2, .int .i64 mk, .int .i64 mc, .slice mA mf.length mp] 56 (0, 0)) := by rw [hwn, hg]; exact heap_alloc_new _ _
                      have hbn : Below wz.heap.size wz wn := by rw [hwn]; exact (by repeat (first | with_reducible exact Below.refl _ _ | (with_reducible refine Below.drew ?_) | (with_reducible refine below_drewN ?_ _) | (with_reducible refine Below.alloc ?_ ?_ _; rotate_left; (first | omega | (simp <;> omega))) | (with_reducible refine Below.setCell ?_ ?_ _; rotate_left; (first | omega | (simp <;> omega)))))
                      rw [← hwn, ← hg]
                      clear hwn hg hHeld
                      replace hon := hon.trans (Only.of_below hbn)
                      replace oi := oi.below hbn
                      replace on := on.below hbn
                      replace hzw := Nat.le_trans hzw hbn.size
                      (try replace k7 := blk_below k7 hbn)
                      clear hbn
                      obtain ⟨wz, rfl⟩ : ∃ x, x = wn := ⟨_, rfl⟩
                      have hHeld := HS _ (hon.mono fun k _ h => .inr h)
                      refine wpAnyH_ready (rs := [15]) (by kernel_rfl) (by simp) ?_
                      refine AllReadyH.cons (o := _) rfl ?_ AllReadyH.nil
                      intro K9 hK9
                      refine step_app2 rfl (.tmp 61) (.tmp 63) (by rfl) NodeE.enc nodeTV _ _ [(⟨m1, m2, mk, mc, mA, mp, mf⟩ : NodeE)] (nodesE l ids') (.slice nA' ids'.length nC') (by rfl) (by rfl) (m := 1) (n := ids'.length + 1) rfl (by rw [nodesE_len]) on (blk_slAt NodeE.enc (fr := (0, 0)) (e := 56) k14 [(⟨m1, m2, mk, mc, mA, mp, mf⟩ : NodeE)] rfl) (by omega) (by unfold maxLen; omega) hzw ?_
                      intro A15 c15 wn ho15 hm15 hst15
                      have hv15 := own_new hst15.2 hon.size
                      have oi' := own_grownOwn on hst15.1 oi (by decide)
                      replace hzw := Nat.le_trans hzw (grown_size hst15.1)
                      replace hon := hon.trans' (only_grown hst15.1) (fun k _ h => .inr h)
                      clear oi on k14 hst15
                      have on := ho15
                      have oi := oi'
                      clear ho15 oi'
                      refine hK9.out _ _ (HS _ (hon.mono fun k _ h => .inr h)) (fun hHeld => ?_)
                      clear hK9 K9
                      (try simp only [Act.put, List.getElem_toArray, List.getElem_cons_succ, List.getElem_cons_zero, List.setIfInBounds_toArray, List.set_cons_zero, List.set_cons_succ])
                      obtain ⟨wz, rfl⟩ : ∃ x, x = wn := ⟨_, rfl⟩
                      refine wpAnyH_cast (l' := #[true, true, true, true, true, true, true, true, true, true, true, true, true, true, true, true, false, false, false, false, false, false]) (by kernel_rfl) ?_
                      clear hHeld hm8 hm15
                      revert hv15
                      revert hv8
                      revert hzw
                      revert on
                      revert oi
                      revert hon
                      revert wz
                      revert c15
                      revert A15
                      revert c8
                      revert A8
                      revert g14
                      revert g7
                      exact final ()
                    · intro K9 hK9
                      go_simp
                      refine hK9.out _ _ (HS _ ((hon.alloc _).mono fun k _ h => .inr h)) (fun hHeld => ?_)
                      clear hK9 K9
                      (try simp only [Act.put, List.getElem_toArray, List.getElem_cons_succ, List.getElem_cons_zero, List.setIfInBounds_toArray, List.set_cons_zero, List.set_cons_succ])
                      obtain ⟨g14, hg⟩ : ∃ g, g = wz.heap.size := ⟨_, rfl⟩
                      obtain ⟨wn, hwn⟩ : ∃ x, x = wz.alloc (.cells #[.int .i64 m1, .int .i64 m2, .int .i64 mk, .int .i64 mc, .slice mA mf.length mp] 56 (0, 0)) := ⟨_, rfl⟩
                      have k14 : wn.heap[g14]? = some (.cells #[.int .i64 m1, .int .i64 m2, .int .i64 mk, .int .i64 mc, .slice mA mf.length mp] 56 (0, 0)) := by rw [hwn, hg]; exact heap_alloc_new _ _
                      have hbn : Below wz.heap.size wz wn := by rw [hwn]; exact (by repeat (first | with_reducible exact Below.refl _ _ | (with_reducible refine Below.drew ?_) | (with_reducible refine below_drewN ?_ _) | (with_reducible refine Below.alloc ?_ ?_ _; rotate_left; (first | omega | (simp <;> omega))) | (with_reducible refine Below.setCell ?_ ?_ _; rotate_left; (first | omega | (simp <;> omega)))))
                      rw [← hwn, ← hg]
                      clear hwn hg hHeld
                      replace hon := hon.trans (Only.of_below hbn)
                      replace oi := oi.below hbn
                      replace on := on.below hbn
                      replace hzw := Nat.le_trans hzw hbn.size
                      (try replace k7 := blk_below k7 hbn)
                      clear hbn
                      obtain ⟨wz, rfl⟩ : ∃ x, x = wn := ⟨_, rfl⟩
                      have hHeld := HS _ (hon.mono fun k _ h => .inr h)
                      refine wpAnyH_ready (rs := [8]) (by kernel_rfl) (by simp) ?_
                      refine AllReadyH.cons (o := _) rfl ?_ AllReadyH.nil
                      intro K9 hK9
                      refine step_app2 rfl (.tmp 54) (.tmp 56) (by rfl) IDE.enc idT _ _ [⟨x1, x2⟩] ids' (.slice iA' ids'.length iC') (by rfl) (by rfl) (m := 1) (n := ids'.length + 1) rfl rfl oi (blk_slAt IDE.enc (fr := (0, 0)) (e := 46) k7 [⟨x1, x2⟩] rfl) (by omega) (by unfold maxLen; omega) hzw ?_
                      intro A8 c8 wn ho8 hm8 hst8
                      have hv8 := own_new hst8.2 hon.size
                      have on' := own_grownOwn oi hst8.1 on (by decide)
                      (try replace k14 := heap_grownOwn oi hst8.1 k14 (by decide))
                      replace hzw := Nat.le_trans hzw (grown_size hst8.1)
                      replace hon := hon.trans' (only_grown hst8.1) (fun k _ h => .inl h)
                      clear oi on k7 hst8
                      have oi := ho8
                      have on := on'
                      clear ho8 on'
                      refine hK9.out _ _ (HS _ (hon.mono fun k _ h => .inr h)) (fun hHeld => ?_)
                      clear hK9 K9
                      (try simp only [Act.put, List.getElem_toArray, List.getElem_cons_succ, List.getElem_cons_zero, List.setIfInBounds_toArray, List.set_cons_zero, List.set_cons_succ])
                      obtain ⟨wz, rfl⟩ : ∃ x, x = wn := ⟨_, rfl⟩
                      refine wpAnyH_ready (rs := [15]) (by kernel_rfl) (by simp) ?_
                      refine AllReadyH.cons (o := _) rfl ?_ AllReadyH.nil
                      intro K9 hK9
                      refine step_app2 rfl (.tmp 61) (.tmp 63) (by rfl) NodeE.enc nodeTV _ _ [(⟨m1, m2, mk, mc, mA, mp, mf⟩ : NodeE)] (nodesE l ids') (.slice nA' ids'.length nC') (by rfl) (by rfl) (m := 1) (n := ids'.length + 1) rfl (by rw [nodesE_len]) on (blk_slAt NodeE.enc (fr := (0, 0)) (e := 56) k14 [(⟨m1, m2, mk, mc, mA, mp, mf⟩ : NodeE)] rfl) (by omega) (by unfold maxLen; omega) hzw ?_
                      intro A15 c15 wn ho15 hm15 hst15
                      have hv15 := own_new hst15.2 hon.size
                      have oi' := own_grownOwn on hst15.1 oi (by decide)
                      replace hzw := Nat.le_trans hzw (grown_size hst15.1)
                      replace hon := hon.trans' (only_grown hst15.1) (fun k _ h => .inr h)
                      clear oi on k14 hst15
                      have on := ho15
                      have oi := oi'
                      clear ho15 oi'
                      refine hK9.out _ _ (HS _ (hon.mono fun k _ h => .inr h)) (fun hHeld => ?_)
                      clear hK9 K9
                      (try simp only [Act.put, List.getElem_toArray, List.getElem_cons_succ, List.getElem_cons_zero, List.setIfInBounds_toArray, List.set_cons_zero, List.set_cons_succ])
                      obtain ⟨wz, rfl⟩ : ∃ x, x = wn := ⟨_, rfl⟩
                      refine wpAnyH_cast (l' := #[true, true, true, true, true, true, true, true, true, true, true, true, true, true, true, true, false, false, false, false, false, false]) (by kernel_rfl) ?_
                      clear hHeld hm8 hm15
                      revert hv15
                      revert hv8
                      revert hzw
                      revert on
                      revert oi
                      revert hon
                      revert wz
                      revert c15
                      revert A15
                      revert c8
                      revert A8
                      revert g14
                      revert g7
                      exact final ()
                  · intro K9 hK9
                    go_simp
                    refine hK9.out _ _ (HS _ ((hon.alloc _).mono fun k _ h => .inr h)) (fun hHeld => ?_)
                    clear hK9 K9
                    (try simp only [Act.put, List.getElem_toArray, List.getElem_cons_succ, List.getElem_cons_zero, List.setIfInBounds_toArray, List.set_cons_zero, List.set_cons_succ])
                    obtain ⟨g14, hg⟩ : ∃ g, g = wz.heap.size := ⟨_, rfl⟩
                    obtain ⟨wn, hwn⟩ : ∃ x, x = wz.alloc (.cells #[.int .i64 m1, .int .i64 m2, .int .i64 mk, .int .i64 mc, .slice mA mf.length mp] 56 (0, 0)) := ⟨_, rfl⟩
                    have k14 : wn.heap[g14]? = some (.cells #[.int .i64 m1, .int .i64 m2, .int .i64 mk, .int .i64 mc, .slice mA mf.length mp] 56 (0, 0)) := by rw [hwn, hg]; exact heap_alloc_new _ _
                    have hbn : Below wz.heap.size wz wn := by rw [hwn]; exact (by repeat (first | with_reducible exact Below.refl _ _ | (with_reducible refine Below.drew ?_) | (with_reducible refine below_drewN ?_ _) | (with_reducible refine Below.alloc ?_ ?_ _; rotate_left; (first | omega | (simp <;> omega))) | (with_reducible refine Below.setCell ?_ ?_ _; rotate_left; (first | omega | (simp <;> omega)))))
                    rw [← hwn, ← hg]
                    clear hwn hg hHeld
                    replace hon := hon.trans (Only.of_below hbn)
                    replace oi := oi.below hbn
                    replace on := on.below hbn
                    replace hzw := Nat.le_trans hzw hbn.size
                    (try replace k7 := blk_below k7 hbn)
                    clear hbn
                    obtain ⟨wz, rfl⟩ : ∃ x, x = wn := ⟨_, rfl⟩
                    have hHeld := HS _ (hon.mono fun k _ h => .inr h)
                    refine wpAnyH_ready (rs := [5]) (by kernel_rfl) (by simp) ?_
                    refine AllReadyH.cons (o := _) rfl ?_ AllReadyH.nil
                    intro K9 hK9
                    obtain ⟨t0, t1⟩ := HT _ hon
                    go_simp
                    clear t0 t1
                    refine hK9.out _ _ (HS _ (hon.mono fun k _ h => .inr h)) (fun hHeld => ?_)
                    clear hK9 K9
                    (try simp only [Act.put, List.getElem_toArray, List.getElem_cons_succ, List.getElem_cons_zero, List.setIfInBounds_toArray, List.set_cons_zero, List.set_cons_succ])
                    refine wpAnyH_ready (rs := [8]) (by kernel_rfl) (by simp) ?_
                    refine AllReadyH.cons (o := _) rfl ?_ AllReadyH.nil
                    intro K9 hK9
                    refine step_app2 rfl (.tmp 54) (.tmp 56) (by rfl) IDE.enc idT _ _ [⟨x1, x2⟩] ids' (.slice iA' ids'.length iC') (by rfl) (by rfl) (m := 1) (n := ids'.length + 1) rfl rfl oi (blk_slAt IDE.enc (fr := (0, 0)) (e := 46) k7 [⟨x1, x2⟩] rfl) (by omega) (by unfold maxLen; omega) hzw ?_
                    intro A8 c8 wn ho8 hm8 hst8
                    have hv8 := own_new hst8.2 hon.size
                    have on' := own_grownOwn oi hst8.1 on (by decide)
                    (try replace k14 := heap_grownOwn oi hst8.1 k14 (by decide))
                    replace hzw := Nat.le_trans hzw (grown_size hst8.1)
                    replace hon := hon.trans' (only_grown hst8.1) (fun k _ h => .inl h)
                    clear oi on k7 hst8
                    have oi := ho8
                    have on := on'
                    clear ho8 on'
                    refine hK9.out _ _ (HS _ (hon.mono fun k _ h => .inr h)) (fun hHeld => ?_)
                    clear hK9 K9
                    (try simp only [Act.put, List.getElem_toArray, List.getElem_cons_succ, List.getElem_cons_zero, List.setIfInBounds_toArray, List.set_cons_zero, List.set_cons_succ])
                    obtain ⟨wz, rfl⟩ : ∃ x, x = wn := ⟨_, rfl⟩
                    refine wpAnyH_ready (rs := [15]) (by kernel_rfl) (by simp) ?_
                    refine AllReadyH.cons (o := _) rfl ?_ AllReadyH.nil
                    intro K9 hK9
                    refine step_app2 rfl (.tmp 61) (.tmp 63) (by rfl) NodeE.enc nodeTV _ _ [(⟨m1, m2, mk, mc, mA, mp, mf⟩ : NodeE)] (nodesE l ids') (.slice nA' ids'.length nC') (by rfl) (by rfl) (m := 1) (n := ids'.length + 1) rfl (by rw [nodesE_len]) on (blk_slAt NodeE.enc (fr := (0, 0)) (e := 56) k14 [(⟨m1, m2, mk, mc, mA, mp, mf⟩ : NodeE)] rfl) (by omega) (by unfold maxLen; omega) hzw ?_
                    intro A15 c15 wn ho15 hm15 hst15
                    have hv15 := own_new hst15.2 hon.size
                    have oi' := own_grownOwn on hst15.1 oi (by decide)
                    replace hzw := Nat.le_trans hzw (grown_size hst15.1)
                    replace hon := hon.trans' (only_grown hst15.1) (fun k _ h => .inr h)
                    clear oi on k14 hst15
                    have on := ho15
                    have oi := oi'
                    clear ho15 oi'
                    refine hK9.out _ _ (HS _ (hon.mono fun k _ h => .inr h)) (fun hHeld => ?_)
                    clear hK9 K9
                    (try simp only [Act.put, List.getElem_toArray, List.getElem_cons_succ, List.getElem_cons_zero, List.setIfInBounds_toArray, List.set_cons_zero, List.set_cons_succ])
                    obtain ⟨wz, rfl⟩ : ∃ x, x = wn := ⟨_, rfl⟩
                    refine wpAnyH_cast (l' := #[true, true, true, true, true, true, true, true, true, true, true, true, true, true, true, true, false, false, false, false, false, false]) (by kernel_rfl) ?_
                    clear hHeld hm8 hm15
                    revert hv15
                    revert hv8
                    revert hzw
                    revert on
                    revert oi
                    revert hon
                    revert wz
                    revert c15
                    revert A15
                    revert c8
                    revert A8
                    revert g14
                    revert g7
                    exact final ()
                · intro K9 hK9
                  go_simp
                  refine hK9.out _ _ (HS _ ((hon.alloc _).mono fun k _ h => .inr h)) (fun hHeld => ?_)
                  clear hK9 K9
                  (try simp only [Act.put, List.getElem_toArray, List.getElem_cons_succ, List.getElem_cons_zero, List.setIfInBounds_toArray, List.set_cons_zero, List.set_cons_succ])
                  obtain ⟨g14, hg⟩ : ∃ g, g = wz.heap.size := ⟨_, rfl⟩
                  obtain ⟨wn, hwn⟩ : ∃ x, x = wz.alloc (.cells #[.int .i64 m1, .int .i64 m2, .int .i64 mk, .int .i64 mc, .slice mA mf.length mp] 56 (0, 0)) := ⟨_, rfl⟩
                  have k14 : wn.heap[g14]? = some (.cells #[.int .i64 m1, .int .i64 m2, .int .i64 mk, .int .i64 mc, .slice mA mf.length mp] 56 (0, 0)) := by rw [hwn, hg]; exact heap_alloc_new _ _
                  have hbn : Below wz.heap.size wz wn := by rw [hwn]; exact (by repeat (first | with_reducible exact Below.refl _ _ | (with_reducible refine Below.drew ?_) | (with_reducible refine below_drewN ?_ _) | (with_reducible refine Below.alloc ?_ ?_ _; rotate_left; (first | omega | (simp <;> omega))) | (with_reducible refine Below.setCell ?_ ?_ _; rotate_left; (first | omega | (simp <;> omega)))))
                  rw [← hwn, ← hg]
                  clear hwn hg hHeld
                  replace hon := hon.trans (Only.of_below hbn)
                  replace oi := oi.below hbn
                  replace on := on.below hbn
                  replace hzw := Nat.le_trans hzw hbn.size
                  (try replace k7 := blk_below k7 hbn)
                  clear hbn
                  obtain ⟨wz, rfl⟩ : ∃ x, x = wn := ⟨_, rfl⟩
                  have hHeld := HS _ (hon.mono fun k _ h => .inr h)
                  refine wpAnyH_ready (rs := [5, 7]) (by kernel_rfl) (by simp) ?_
                  refine AllReadyH.cons (o := _) rfl ?_ (AllReadyH.cons (o := _) rfl ?_ (AllReadyH.nil))
                  · intro K9 hK9
                    obtain ⟨t0, t1⟩ := HT _ hon
                    go_simp
                    clear t0 t1
                    refine hK9.out _ _ (HS _ (hon.mono fun k _ h => .inr h)) (fun hHeld => ?_)
                    clear hK9 K9
                    (try simp only [Act.put, List.getElem_toArray, List.getElem_cons_succ, List.getElem_cons_zero, List.setIfInBounds_toArray, List.set_cons_zero, List.set_cons_succ])
                    refine wpAnyH_ready (rs := [7]) (by kernel_rfl) (by simp) ?_
                    refine AllReadyH.cons (o := _) rfl ?_ AllReadyH.nil
                    intro K9 hK9
                    go_simp
                    refine hK9.out _ _ (HS _ ((hon.alloc _).mono fun k _ h => .inr h)) (fun hHeld => ?_)
                    clear hK9 K9
                    (try simp only [Act.put, List.getElem_toArray, List.getElem_cons_succ, List.getElem_cons_zero, List.setIfInBounds_toArray, List.set_cons_zero, List.set_cons_succ])
                    obtain ⟨g7, hg⟩ : ∃ g, g = wz.heap.size := ⟨_, rfl⟩
                    obtain ⟨wn, hwn⟩ : ∃ x, x = wz.alloc (.cells #[.int .i64 x1, .int .i64 x2] 46 (0, 0)) := ⟨_, rfl⟩
                    have k7 : wn.heap[g7]? = some (.cells #[.int .i64 x1, .int .i64 x2] 46 (0, 0)) := by rw [hwn, hg]; exact heap_alloc_new _ _
                    have hbn : Below wz.heap.size wz wn := by rw [hwn]; exact (by repeat (first | with_reducible exact Below.refl _ _ | (with_reducible refine Below.drew ?_) | (with_reducible refine below_drewN ?_ _) | (with_reducible refine Below.alloc ?_ ?_ _; rotate_left; (first | omega | (simp <;> omega))) | (with_reducible refine Below.setCell ?_ ?_ _; rotate_left; (first | omega | (simp <;> omega)))))
                    rw [← hwn, ← hg]
                    clear hwn hg hHeld
                    replace hon := hon.trans (Only.of_below hbn)
                    replace oi := oi.below hbn
                    replace on := on.below hbn
                    replace hzw := Nat.le_trans hzw hbn.size
                    (try replace k14 := blk_below k14 hbn)
                    clear hbn
                    obtain ⟨wz, rfl⟩ : ∃ x, x = wn := ⟨_, rfl⟩
                    have hHeld := HS _ (hon.mono fun k _ h => .inr h)
                    refine wpAnyH_ready (rs := [8]) (by kernel_rfl) (by simp) ?_
                    refine AllReadyH.cons (o := _) rfl ?_ AllReadyH.nil
                    intro K9 hK9
                    refine step_app2 rfl (.tmp 54) (.tmp 56) (by rfl) IDE.enc idT _ _ [⟨x1, x2⟩] ids' (.slice iA' ids'.length iC') (by rfl) (by rfl) (m := 1) (n := ids'.length + 1) rfl rfl oi (blk_slAt IDE.enc (fr := (0, 0)) (e := 46) k7 [⟨x1, x2⟩] rfl) (by omega) (by unfold maxLen; omega) hzw ?_
                    intro A8 c8 wn ho8 hm8 hst8
                    have hv8 := own_new hst8.2 hon.size
                    have on' := own_grownOwn oi hst8.1 on (by decide)
                    (try replace k14 := heap_grownOwn oi hst8.1 k14 (by decide))
                    replace hzw := Nat.le_trans hzw (grown_size hst8.1)
                    replace hon := hon.trans' (only_grown hst8.1) (fun k _ h => .inl h)
                    clear oi on k7 hst8
                    have oi := ho8
                    have on := on'
                    clear ho8 on'
                    refine hK9.out _ _ (HS _ (hon.mono fun k _ h => .inr h)) (fun hHeld => ?_)
                    clear hK9 K9
                    (try simp only [Act.put, List.getElem_toArray, List.getElem_cons_succ, List.getElem_cons_zero, List.setIfInBounds_toArray, List.set_cons_zero, List.set_cons_succ])
                    obtain ⟨wz, rfl⟩ : ∃ x, x = wn := ⟨_, rfl⟩
                    refine wpAnyH_ready (rs := [15]) (by kernel_rfl) (by simp) ?_
                    refine AllReadyH.cons (o := _) rfl ?_ AllReadyH.nil
                    intro K9 hK9
                    refine step_app2 rfl (.tmp 61) (.tmp 63) (by rfl) NodeE.enc nodeTV _ _ [(⟨m1, m2, mk, mc, mA, mp, mf⟩ : NodeE)] (nodesE l ids') (.slice nA' ids'.length nC') (by rfl) (by rfl) (m := 1) (n := ids'.length + 1) rfl (by rw [nodesE_len]) on (blk_slAt NodeE.enc (fr := (0, 0)) (e := 56) k14 [(⟨m1, m2, mk, mc, mA, mp, mf⟩ : NodeE)] rfl) (by omega) (by unfold maxLen; omega) hzw ?_
                    intro A15 c15 wn ho15 hm15 hst15
                    have hv15 := own_new hst15.2 hon.size
                    have oi' := own_grownOwn on hst15.1 oi (by decide)
                    replace hzw := Nat.le_trans hzw (grown_size hst15.1)
                    replace hon := hon.trans' (only_grown hst15.1) (fun k _ h => .inr h)
                    clear oi on k14 hst15
                    have on := ho15
                    have oi := oi'
                    clear ho15 oi'
                    refine hK9.out _ _ (HS _ (hon.mono fun k _ h => .inr h)) (fun hHeld => ?_)
                    clear hK9 K9
                    (try simp only [Act.put, List.getElem_toArray, List.getElem_cons_succ, List.getElem_cons_zero, List.setIfInBounds_toArray, List.set_cons_zero, List.set_cons_succ])
                    obtain ⟨wz, rfl⟩ : ∃ x, x = wn := ⟨_, rfl⟩
                    refine wpAnyH_cast (l' := #[true, true, true, true, true, true, true, true, true, true, true, true, true, true, true, true, false, false, false, false, false, false]) (by kernel_rfl) ?_
                    clear hHeld hm8 hm15
                    revert hv15
                    revert hv8
                    revert hzw
                    revert on
                    revert oi
                    revert hon
                    revert wz
                    revert c15
                    revert A15
                    revert c8
                    revert A8
                    revert g14
                    revert g7
                    exact final ()
                  · intro K9 hK9
                    go_simp
                    refine hK9.out _ _ (HS _ ((hon.alloc _).mono fun k _ h => .inr h)) (fun hHeld => ?_)
                    clear hK9 K9
                    (try simp only [Act.put, List.getElem_toArray, List.getElem_cons_succ, List.getElem_cons_zero, List.setIfInBounds_toArray, List.set_cons_zero, List.set_cons_succ])
                    obtain ⟨g7, hg⟩ : ∃ g, g = wz.heap.size := ⟨_, rfl⟩
                    obtain ⟨wn, hwn⟩ : ∃ x, x = wz.alloc (.cells #[.int .i64 x1, .int .i64 x2] 46 (0, 0)) := ⟨_, rfl⟩
                    have k7 : wn.heap[g7]? = some (.cells #[.int .i64 x1, .int .i64 x2] 46 (0, 0)) := by rw [hwn, hg]; exact heap_alloc_new _ _
                    have hbn : Below wz.heap.size wz wn := by rw [hwn]; exact (by repeat (first | with_reducible exact Below.refl _ _ | (with_reducible refine Below.drew ?_) | (with_reducible refine below_drewN ?_ _) | (with_reducible refine Below.alloc ?_ ?_ _; rotate_left; (first | omega | (simp <;> omega))) | (with_reducible refine Below.setCell ?_ ?_ _; rotate_left; (first | omega | (simp <;> omega)))))
                    rw [← hwn, ← hg]
                    clear hwn hg hHeld
                    replace hon := hon.trans (Only.of_below hbn)
                    replace oi := oi.below hbn
                    replace on := on.below hbn
                    replace hzw := Nat.le_trans hzw hbn.size
                    (try replace k14 := blk_below k14 hbn)
                    clear hbn
                    obtain ⟨wz, rfl⟩ : ∃ x, x = wn := ⟨_, rfl⟩
                    have hHeld := HS _ (hon.mono fun k _ h => .inr h)
                    refine wpAnyH_ready (rs := [5]) (by kernel_rfl) (by simp) ?_
                    refine AllReadyH.cons (o := _) rfl ?_ AllReadyH.nil
                    intro K9 hK9
                    obtain ⟨t0, t1⟩ := HT _ hon
                    go_simp
                    clear t0 t1
                    refine hK9.out _ _ (HS _ (hon.mono fun k _ h => .inr h)) (fun hHeld => ?_)
                    clear hK9 K9
                    (try simp only [Act.put, List.getElem_toArray, List.getElem_cons_succ, List.getElem_cons_zero, List.setIfInBounds_toArray, List.set_cons_zero, List.set_cons_succ])
                    refine wpAnyH_ready (rs := [8]) (by kernel_rfl) (by simp) ?_
                    refine AllReadyH.cons (o := _) rfl ?_ AllReadyH.nil
                    intro K9 hK9
                    refine step_app2 rfl (.tmp 54) (.tmp 56) (by rfl) IDE.enc idT _ _ [⟨x1, x2⟩] ids' (.slice iA' ids'.length iC') (by rfl) (by rfl) (m := 1) (n := ids'.length + 1) rfl rfl oi (blk_slAt IDE.enc (fr := (0, 0)) (e := 46) k7 [⟨x1, x2⟩] rfl) (by omega) (by unfold maxLen; omega) hzw ?_
                    intro A8 c8 wn ho8 hm8 hst8
                    have hv8 := own_new hst8.2 hon.size
                    have on' := own_grownOwn oi hst8.1 on (by decide)
                    (try replace k14 := heap_grownOwn oi hst8.1 k14 (by decide))
                    replace hzw := Nat.le_trans hzw (grown_size hst8.1)
                    replace hon := hon.trans' (only_grown hst8.1) (fun k _ h => .inl h)
                    clear oi on k7 hst8
                    have oi := ho8
                    have on := on'
                    clear ho8 on'
                    refine hK9.out _ _ (HS _ (hon.mono fun k _ h => .inr h)) (fun hHeld => ?_)
                    clear hK9 K9
                    (try simp only [Act.put, List.getElem_toArray, List.getElem_cons_succ, List.getElem_cons_zero, List.setIfInBounds_toArray, List.set_cons_zero, List.set_cons_succ])
                    obtain ⟨wz, rfl⟩ : ∃ x, x = wn := ⟨_, rfl⟩
                    refine wpAnyH_ready (rs := [15]) (by kernel_rfl) (by simp) ?_
                    refine AllReadyH.cons (o := _) rfl ?_ AllReadyH.nil
                    intro K9 hK9
                    refine step_app2 rfl (.tmp 61) (.tmp 63) (by rfl) NodeE.enc nodeTV _ _ [(⟨m1, m2, mk, mc, mA, mp, mf⟩ : NodeE)] (nodesE l ids') (.slice nA' ids'.length nC') (by rfl) (by rfl) (m := 1) (n := ids'.length + 1) rfl (by rw [nodesE_len]) on (blk_slAt NodeE.enc (fr := (0, 0)) (e := 56) k14 [(⟨m1, m2, mk, mc, mA, mp, mf⟩ : NodeE)] rfl) (by omega) (by unfold maxLen; omega) hzw ?_
                    intro A15 c15 wn ho15 hm15 hst15
                    have hv15 := own_new hst15.2 hon.size
                    have oi' := own_grownOwn on hst15.1 oi (by decide)
                    replace hzw := Nat.le_trans hzw (grown_size hst15.1)
                    replace hon := hon.trans' (only_grown hst15.1) (fun k _ h => .inr h)
                    clear oi on k14 hst15
                    have on := ho15
                    have oi := oi'
                    clear ho15 oi'
                    refine hK9.out _ _ (HS _ (hon.mono fun k _ h => .inr h)) (fun hHeld => ?_)
                    clear hK9 K9
                    (try simp only [Act.put, List.getElem_toArray, List.getElem_cons_succ, List.getElem_cons_zero, List.setIfInBounds_toArray, List.set_cons_zero, List.set_cons_succ])
                    obtain ⟨wz, rfl⟩ : ∃ x, x = wn := ⟨_, rfl⟩
                    refine wpAnyH_cast (l' := #[true, true, true, true, true, true, true, true, true, true, true, true, true, true, true, true, false, false, false, false, false, false]) (by kernel_rfl) ?_
                    clear hHeld hm8 hm15
                    revert hv15
                    revert hv8
                    revert hzw
                    revert on
                    revert oi
                    revert hon
                    revert wz
                    revert c15
                    revert A15
                    revert c8
                    revert A8
                    revert g14
                    revert g7
                    exact final ()
              · intro K9 hK9
                go_simp
                refine hK9.out _ _ (HS _ ((hon.alloc _).mono fun k _ h => .inr h)) (fun hHeld => ?_)
                clear hK9 K9
                (try simp only [Act.put, List.getElem_toArray, List.getElem_cons_succ, List.getElem_cons_zero, List.setIfInBounds_toArray, List.set_cons_zero, List.set_cons_succ])
                obtain ⟨g14, hg⟩ : ∃ g, g = wz.heap.size := ⟨_, rfl⟩
                obtain ⟨wn, hwn⟩ : ∃ x, x = wz.alloc (.cells #[.int .i64 m1, .int .i64 m2, .int .i64 mk, .int .i64 mc, .slice mA mf.length mp] 56 (0, 0)) := ⟨_, rfl⟩
                have k14 : wn.heap[g14]? = some (.cells #[.int .i64 m1, .int .i64 m2, .int .i64 mk, .int .i64 mc, .slice mA mf.length mp] 56 (0, 0)) := by rw [hwn, hg]; exact heap_alloc_new _ _
                have hbn : Below wz.heap.size wz wn := by rw [hwn]; exact (by repeat (first | with_reducible exact Below.refl _ _ | (with_reducible refine Below.drew ?_) | (with_reducible refine below_drewN ?_ _) | (with_reducible refine Below.alloc ?_ ?_ _; rotate_left; (first | omega | (simp <;> omega))) | (with_reducible refine Below.setCell ?_ ?_ _; rotate_left; (first | omega | (simp <;> omega)))))
                rw [← hwn, ← hg]
                clear hwn hg hHeld
                replace hon := hon.trans (Only.of_below hbn)
                replace oi := oi.below hbn
                replace on := on.below hbn
                replace hzw := Nat.le_trans hzw hbn.size
                (try replace k7 := blk_below k7 hbn)
                clear hbn
                obtain ⟨wz, rfl⟩ : ∃ x, x = wn := ⟨_, rfl⟩
                have hHeld := HS _ (hon.mono fun k _ h => .inr h)
                refine wpAnyH_ready (rs := [5, 7, 12]) (by kernel_rfl) (by simp) ?_
                refine AllReadyH.cons (o := _) rfl ?_ (AllReadyH.cons (o := _) rfl ?_ (AllReadyH.cons (o := _) rfl ?_ (AllReadyH.nil)))
                · intro K9 hK9
                  obtain ⟨t0, t1⟩ := HT _ hon
                  go_simp
                  clear t0 t1
                  refine hK9.out _ _ (HS _ (hon.mono fun k _ h => .inr h)) (fun hHeld => ?_)
                  clear hK9 K9
                  (try simp only [Act.put, List.getElem_toArray, List.getElem_cons_succ, List.getElem_cons_zero, List.setIfInBounds_toArray, List.set_cons_zero, List.set_cons_succ])
                  refine wpAnyH_ready (rs := [7, 12]) (by kernel_rfl) (by simp) ?_
                  refine AllReadyH.cons (o := _) rfl ?_ (AllReadyH.cons (o := _) rfl ?_ (AllReadyH.nil))
                  · intro K9 hK9
                    go_simp
                    refine hK9.out _ _ (HS _ ((hon.alloc _).mono fun k _ h => .inr h)) (fun hHeld => ?_)
                    clear hK9 K9
                    (try simp only [Act.put, List.getElem_toArray, List.getElem_cons_succ, List.getElem_cons_zero, List.setIfInBounds_toArray, List.set_cons_zero, List.set_cons_succ])
                    obtain ⟨g7, hg⟩ : ∃ g, g = wz.heap.size := ⟨_, rfl⟩
                    obtain ⟨wn, hwn⟩ : ∃ x, x = wz.alloc (.cells #[.int .i64 x1, .int .i64 x2] 46 (0, 0)) := ⟨_, rfl⟩
                    have k7 : wn.heap[g7]? = some (.cells #[.int .i64 x1, .int .i64 x2] 46 (0, 0)) := by rw [hwn, hg]; exact heap_alloc_new _ _
                    have hbn : Below wz.heap.size wz wn := by rw [hwn]; exact (by repeat (first | with_reducible exact Below.refl _ _ | (with_reducible refine Below.drew ?_) | (with_reducible refine below_drewN ?_ _) | (with_reducible refine Below.alloc ?_ ?_ _; rotate_left; (first | omega | (simp <;> omega))) | (with_reducible refine Below.setCell ?_ ?_ _; rotate_left; (first | omega | (simp <;> omega)))))
                    rw [← hwn, ← hg]
                    clear hwn hg hHeld
                    replace hon := hon.trans (Only.of_below hbn)
                    replace oi := oi.below hbn
                    replace on := on.below hbn
                    replace hzw := Nat.le_trans hzw hbn.size
                    (try replace k14 := blk_below k14 hbn)
                    clear hbn
                    obtain ⟨wz, rfl⟩ : ∃ x, x = wn := ⟨_, rfl⟩
                    have hHeld := HS _ (hon.mono fun k _ h => .inr h)
                    refine wpAnyH_ready (rs := [8, 12]) (by kernel_rfl) (by simp) ?_
                    refine AllReadyH.cons (o := _) rfl ?_ (AllReadyH.cons (o := _) rfl ?_ (AllReadyH.nil))
                    · intro K9 hK9
                      refine step_app2 rfl (.tmp 54) (.tmp 56) (by rfl) IDE.enc idT _ _ [⟨x1, x2⟩] ids' (.slice iA' ids'.length iC') (by rfl) (by rfl) (m := 1) (n := ids'.length + 1) rfl rfl oi (blk_slAt IDE.enc (fr := (0, 0)) (e := 46) k7 [⟨x1, x2⟩] rfl) (by omega) (by unfold maxLen; omega) hzw ?_
                      intro A8 c8 wn ho8 hm8 hst8
                      have hv8 := own_new hst8.2 hon.size
                      have on' := own_grownOwn oi hst8.1 on (by decide)
                      (try replace k14 := heap_grownOwn oi hst8.1 k14 (by decide))
                      replace hzw := Nat.le_trans hzw (grown_size hst8.1)
                      replace hon := hon.trans' (only_grown hst8.1) (fun k _ h => .inl h)
                      clear oi on k7 hst8
                      have oi := ho8
                      have on := on'
                      clear ho8 on'
                      refine hK9.out _ _ (HS _ (hon.mono fun k _ h => .inr h)) (fun hHeld => ?_)
                      clear hK9 K9
                      (try simp only [Act.put, List.getElem_toArray, List.getElem_cons_succ, List.getElem_cons_zero, List.setIfInBounds_toArray, List.set_cons_zero, List.set_cons_succ])
                      obtain ⟨wz, rfl⟩ : ∃ x, x = wn := ⟨_, rfl⟩
                      refine wpAnyH_ready (rs := [12]) (by kernel_rfl) (by simp) ?_
                      refine AllReadyH.cons (o := _) rfl ?_ AllReadyH.nil
                      intro K9 hK9
                      obtain ⟨t0, t1⟩ := HT _ hon
                      go_simp
                      clear t0 t1
                      refine hK9.out _ _ (HS _ (hon.mono fun k _ h => .inr h)) (fun hHeld => ?_)
                      clear hK9 K9
                      (try simp only [Act.put, List.getElem_toArray, List.getElem_cons_succ, List.getElem_cons_zero, List.setIfInBounds_toArray, List.set_cons_zero, List.set_cons_succ])
                      refine wpAnyH_ready (rs := [15]) (by kernel_rfl) (by simp) ?_
                      refine AllReadyH.cons (o := _) rfl ?_ AllReadyH.nil
                      intro K9 hK9
                      refine step_app2 rfl (.tmp 61) (.tmp 63) (by rfl) NodeE.enc nodeTV _ _ [(⟨m1, m2, mk, mc, mA, mp, mf⟩ : NodeE)] (nodesE l ids') (.slice nA' ids'.length nC') (by rfl) (by rfl) (m := 1) (n := ids'.length + 1) rfl (by rw [nodesE_len]) on (blk_slAt NodeE.enc (fr := (0, 0)) (e := 56) k14 [(⟨m1, m2, mk, mc, mA, mp, mf⟩ : NodeE)] rfl) (by omega) (by unfold maxLen; omega) hzw ?_
                      intro A15 c15 wn ho15 hm15 hst15
                      have hv15 := own_new hst15.2 hon.size
                      have oi' := own_grownOwn on hst15.1 oi (by decide)
                      replace hzw := Nat.le_trans hzw (grown_size hst15.1)
                      replace hon := hon.trans' (only_grown hst15.1) (fun k _ h => .inr h)
                      clear oi on k14 hst15
                      have on := ho15
                      have oi := oi'
                      clear ho15 oi'
                      refine hK9.out _ _ (HS _ (hon.mono fun k _ h => .inr h)) (fun hHeld => ?_)
                      clear hK9 K9
                      (try simp only [Act.put, List.getElem_toArray, List.getElem_cons_succ, List.getElem_cons_zero, List.setIfInBounds_toArray, List.set_cons_zero, List.set_cons_succ])
                      obtain ⟨wz, rfl⟩ : ∃ x, x = wn := ⟨_, rfl⟩
                      refine wpAnyH_cast (l' := #[true, true, true, true, true, true, true, true, true, true, true, true, true, true, true, true, false, false, false, false, false, false]) (by kernel_rfl) ?_
                      clear hHeld hm8 hm15
                      revert hv15
                      revert hv8
                      revert hzw
                      revert on
                      revert oi
                      revert hon
                      revert wz
                      revert c15
                      revert A15
                      revert c8
                      revert A8
                      revert g14
                      revert g7
                      exact final ()
                    · intro K9 hK9
                      obtain ⟨t0, t1⟩ := HT _ hon
                      go_simp
                      clear t0 t1
                      refine hK9.out _ _ (HS _ (hon.mono fun k _ h => .inr h)) (fun hHeld => ?_)
                      clear hK9 K9
                      (try simp only [Act.put, List.getElem_toArray, List.getElem_cons_succ, List.getElem_cons_zero, List.setIfInBounds_toArray, List.set_cons_zero, List.set_cons_succ])
                      refine wpAnyH_ready (rs := [8]) (by kernel_rfl) (by simp) ?_
                      refine AllReadyH.cons (o := _) rfl ?_ AllReadyH.nil
                      intro K9 hK9
                      refine step_app2 rfl (.tmp 54) (.tmp 56) (by rfl) IDE.enc idT _ _ [⟨x1, x2⟩] ids' (.slice iA' ids'.length iC') (by rfl) (by rfl) (m := 1) (n := ids'.length + 1) rfl rfl oi (blk_slAt IDE.enc (fr := (0, 0)) (e := 46) k7 [⟨x1, x2⟩] rfl) (by omega) (by unfold maxLen; omega) hzw ?_
                      intro A8 c8 wn ho8 hm8 hst8
                      have hv8 := own_new hst8.2 hon.size
                      have on' := own_grownOwn oi hst8.1 on (by decide)
                      (try replace k14 := heap_grownOwn oi hst8.1 k14 (by decide))
                      replace hzw := Nat.le_trans hzw (grown_size hst8.1)
                      replace hon := hon.trans' (only_grown hst8.1) (fun k _ h => .inl h)
                      clear oi on k7 hst8
                      have oi := ho8
                      have on := on'
                      clear ho8 on'
                      refine hK9.out _ _ (HS _ (hon.mono fun k _ h => .inr h)) (fun hHeld => ?_)
                      clear hK9 K9
                      (try simp only [Act.put, List.getElem_toArray, List.getElem_cons_succ, List.getElem_cons_zero, List.setIfInBounds_toArray, List.set_cons_zero, List.set_cons_succ])
                      obtain ⟨wz, rfl⟩ : ∃ x, x = wn := ⟨_, rfl⟩
                      refine wpAnyH_ready (rs := [15]) (by kernel_rfl) (by simp) ?_
                      refine AllReadyH.cons (o := _) rfl ?_ AllReadyH.nil
                      intro K9 hK9
                      refine step_app2 rfl (.tmp 61) (.tmp 63) (by rfl) NodeE.enc nodeTV _ _ [(⟨m1, m2, mk, mc, mA, mp, mf⟩ : NodeE)] (nodesE l ids') (.slice nA' ids'.length nC') (by rfl) (by rfl) (m := 1) (n := ids'.length + 1) rfl (by rw [nodesE_len]) on (blk_slAt NodeE.enc (fr := (0, 0)) (e := 56) k14 [(⟨m1, m2, mk, mc, mA, mp, mf⟩ : NodeE)] rfl) (by omega) (by unfold maxLen; omega) hzw ?_
                      intro A15 c15 wn ho15 hm15 hst15
                      have hv15 := own_new hst15.2 hon.size
                      have oi' := own_grownOwn on hst15.1 oi (by decide)
                      replace hzw := Nat.le_trans hzw (grown_size hst15.1)
                      replace hon := hon.trans' (only_grown hst15.1) (fun k _ h => .inr h)
                      clear oi on k14 hst15
                      have on := ho15
                      have oi := oi'
                      clear ho15 oi'
                      refine hK9.out _ _ (HS _ (hon.mono fun k _ h => .inr h)) (fun hHeld => ?_)
                      clear hK9 K9
                      (try simp only [Act.put, List.getElem_toArray, List.getElem_cons_succ, List.getElem_cons_zero, List.setIfInBounds_toArray, List.set_cons_zero, List.set_cons_succ])
                      obtain ⟨wz, rfl⟩ : ∃ x, x = wn := ⟨_, rfl⟩
                      refine wpAnyH_cast (l' := #[true, true, true, true, true, true, true, true, true, true, true, true, true, true, true, true, false, false, false, false, false, false]) (by kernel_rfl) ?_
                      clear hHeld hm8 hm15
                      revert hv15
                      revert hv8
                      revert hzw
                      revert on
                      revert oi
                      revert hon
                      revert wz
                      revert c15
                      revert A15
                      revert c8
                      revert A8
                      revert g14
                      revert g7
                      exact final ()
                  · intro K9 hK9
                    obtain ⟨t0, t1⟩ := HT _ hon
                    go_simp
                    clear t0 t1
                    refine hK9.out _ _ (HS _ (hon.mono fun k _ h => .inr h)) (fun hHeld => ?_)
                    clear hK9 K9
                    (try simp only [Act.put, List.getElem_toArray, List.getElem_cons_succ, List.getElem_cons_zero, List.setIfInBounds_toArray, List.set_cons_zero, List.set_cons_succ])
                    refine wpAnyH_ready (rs := [7]) (by kernel_rfl) (by simp) ?_
                    refine AllReadyH.cons (o := _) rfl ?_ AllReadyH.nil
                    intro K9 hK9
                    go_simp
                    refine hK9.out _ _ (HS _ ((hon.alloc _).mono fun k _ h => .inr h)) (fun hHeld => ?_)
                    clear hK9 K9
                    (try simp only [Act.put, List.getElem_toArray, List.getElem_cons_succ, List.getElem_cons_zero, List.setIfInBounds_toArray, List.set_cons_zero, List.set_cons_succ])
                    obtain ⟨g7, hg⟩ : ∃ g, g = wz.heap.size := ⟨_, rfl⟩
                    obtain ⟨wn, hwn⟩ : ∃ x, x = wz.alloc (.cells #[.int .i64 x1, .int .i64 x2] 46 (0, 0)) := ⟨_, rfl⟩
                    have k7 : wn.heap[g7]? = some (.cells #[.int .i64 x1, .int .i64 x2] 46 (0, 0)) := by rw [hwn, hg]; exact heap_alloc_new _ _
                    have hbn : Below wz.heap.size wz wn := by rw [hwn]; exact (by repeat (first | with_reducible exact Below.refl _ _ | (with_reducible refine Below.drew ?_) | (with_reducible refine below_drewN ?_ _) | (with_reducible refine Below.alloc ?_ ?_ _; rotate_left; (first | omega | (simp <;> omega))) | (with_reducible refine Below.setCell ?_ ?_ _; rotate_left; (first | omega | (simp <;> omega)))))
                    rw [← hwn, ← hg]
                    clear hwn hg hHeld
                    replace hon := hon.trans (Only.of_below hbn)
                    replace oi := oi.below hbn
                    replace on := on.below hbn
                    replace hzw := Nat.le_trans hzw hbn.size
                    (try replace k14 := blk_below k14 hbn)
                    clear hbn
                    obtain ⟨wz, rfl⟩ : ∃ x, x = wn := ⟨_, rfl⟩
                    have hHeld := HS _ (hon.mono fun k _ h => .inr h)
                    refine wpAnyH_ready (rs := [8]) (by kernel_rfl) (by simp) ?_
                    refine AllReadyH.cons (o := _) rfl ?_ AllReadyH.nil
                    intro K9 hK9
                    refine step_app2 rfl (.tmp 54) (.tmp 56) (by rfl) IDE.enc idT _ _ [⟨x1, x2⟩] ids' (.slice iA' ids'.length iC') (by rfl) (by rfl) (m := 1) (n := ids'.length + 1) rfl rfl oi (blk_slAt IDE.enc (fr := (0, 0)) (e := 46) k7 [⟨x1, x2⟩] rfl) (by omega) (by unfold maxLen; omega) hzw ?_
                    intro A8 c8 wn ho8 hm8 hst8
                    have hv8 := own_new hst8.2 hon.size
                    have on' := own_grownOwn oi hst8.1 on (by decide)
                    (try replace k14 := heap_grownOwn oi hst8.1 k14 (by decide))
                    replace hzw := Nat.le_trans hzw (grown_size hst8.1)
                    replace hon := hon.trans' (only_grown hst8.1) (fun k _ h => .inl h)
                    clear oi on k7 hst8
                    have oi := ho8
                    have on := on'
                    clear ho8 on'
                    refine hK9.out _ _ (HS _ (hon.mono fun k _ h => .inr h)) (fun hHeld => ?_)
                    clear hK9 K9
                    (try simp only [Act.put, List.getElem_toArray, List.getElem_cons_succ, List.getElem_cons_zero, List.setIfInBounds_toArray, List.set_cons_zero, List.set_cons_succ])
                    obtain ⟨wz, rfl⟩ : ∃ x, x = wn := ⟨_, rfl⟩
                    refine wpAnyH_ready (rs := [15]) (by kernel_rfl) (by simp) ?_
                    refine AllReadyH.cons (o := _) rfl ?_ AllReadyH.nil
                    intro K9 hK9
                    refine step_app2 rfl (.tmp 61) (.tmp 63) (by rfl) NodeE.enc nodeTV _ _ [(⟨m1, m2, mk, mc, mA, mp, mf⟩ : NodeE)] (nodesE l ids') (.slice nA' ids'.length nC') (by rfl) (by rfl) (m := 1) (n := ids'.length + 1) rfl (by rw [nodesE_len]) on (blk_slAt NodeE.enc (fr := (0, 0)) (e := 56) k14 [(⟨m1, m2, mk, mc, mA, mp, mf⟩ : NodeE)] rfl) (by omega) (by unfold maxLen; omega) hzw ?_
                    intro A15 c15 wn ho15 hm15 hst15
                    have hv15 := own_new hst15.2 hon.size
                    have oi' := own_grownOwn on hst15.1 oi (by decide)
                    replace hzw := Nat.le_trans hzw (grown_size hst15.1)
                    replace hon := hon.trans' (only_grown hst15.1) (fun k _ h => .inr h)
                    clear oi on k14 hst15
                    have on := ho15
                    have oi := oi'
                    clear ho15 oi'
                    refine hK9.out _ _ (HS _ (hon.mono fun k _ h => .inr h)) (fun hHeld => ?_)
                    clear hK9 K9
                    (try simp only [Act.put, List.getElem_toArray, List.getElem_cons_succ, List.getElem_cons_zero, List.setIfInBounds_toArray, List.set_cons_zero, List.set_cons_succ])
                    obtain ⟨wz, rfl⟩ : ∃ x, x = wn := ⟨_, rfl⟩
                    refine wpAnyH_cast (l' := #[true, true, true, true, true, true, true, true, true, true, true, true, true, true, true, true, false, false, false, false, false, false]) (by kernel_rfl) ?_
                    clear hHeld hm8 hm15
                    revert hv15
                    revert hv8
                    revert hzw
                    revert on
                    revert oi
                    revert hon
                    revert wz
                    revert c15
                    revert A15
                    revert c8
                    revert A8
                    revert g14
                    revert g7
                    exact final ()
                · intro K9 hK9
                  go_simp
                  refine hK9.out _ _ (HS _ ((hon.alloc _).mono fun k _ h => .inr h)) (fun hHeld => ?_)
                  clear hK9 K9
                  (try simp only [Act.put, List.getElem_toArray, List.getElem_cons_succ, List.getElem_cons_zero, List.setIfInBounds_toArray, List.set_cons_zero, List.set_cons_succ])
                  obtain ⟨g7, hg⟩ : ∃ g, g = wz.heap.size := ⟨_, rfl⟩
                  obtain ⟨wn, hwn⟩ : ∃ x, x = wz.alloc (.cells #[.int .i64 x1, .int .i64 x2] 46 (0, 0)) := ⟨_, rfl⟩
                  have k7 : wn.heap[g7]? = some (.cells #[.int .i64 x1, .int .i64 x2] 46 (0, 0)) := by rw [hwn, hg]; exact heap_alloc_new _ _
                  have hbn : Below wz.heap.size wz wn := by rw [hwn]; exact (by repeat (first | with_reducible exact Below.refl _ _ | (with_reducible refine Below.drew ?_) | (with_reducible refine below_drewN ?_ _) | (with_reducible refine Below.alloc ?_ ?_ _; rotate_left; (first | omega | (simp <;> omega))) | (with_reducible refine Below.setCell ?_ ?_ _; rotate_left; (first | omega | (simp <;> omega)))))
                  rw [← hwn, ← hg]
                  clear hwn hg hHeld
                  replace hon := hon.trans (Only.of_below hbn)
                  replace oi := oi.below hbn
                  replace on := on.below hbn
                  replace hzw := Nat.le_trans hzw hbn.size
                  (try replace k14 := blk_below k14 hbn)
                  clear hbn
                  obtain ⟨wz, rfl⟩ : ∃ x, x = wn := ⟨_, rfl⟩
                  have hHeld := HS _ (hon.mono fun k _ h => .inr h)
                  refine wpAnyH_ready (rs := [5, 12]) (by kernel_rfl) (by simp) ?_
                  refine AllReadyH.cons (o := _) rfl ?_ (AllReadyH.cons (o := _) rfl ?_ (AllReadyH.nil))
                  · intro K9 hK9
                    obtain ⟨t0, t1⟩ := HT _ hon
                    go_simp
                    clear t0 t1
                    refine hK9.out _ _ (HS _ (hon.mono fun k _ h => .inr h)) (fun hHeld => ?_)
                    clear hK9 K9
                    (try simp only [Act.put, List.getElem_toArray, List.getElem_cons_succ, List.getElem_cons_zero, List.setIfInBounds_toArray, List.set_cons_zero, List.set_cons_succ])
                    refine wpAnyH_ready (rs := [8, 12]) (by kernel_rfl) (by simp) ?_
                    refine AllReadyH.cons (o := _) rfl ?_ (AllReadyH.cons (o := _) rfl ?_ (AllReadyH.nil))
                    · intro K9 hK9
                      refine step_app2 rfl (.tmp 54) (.tmp 56) (by rfl) IDE.enc idT _ _ [⟨x1, x2⟩] ids' (.slice iA' ids'.length iC') (by rfl) (by rfl) (m := 1) (n := ids'.length + 1) rfl rfl oi (blk_slAt IDE.enc (fr := (0, 0)) (e := 46) k7 [⟨x1, x2⟩] rfl) (by omega) (by unfold maxLen; omega) hzw ?_
                      intro A8 c8 wn ho8 hm8 hst8
                      have hv8 := own_new hst8.2 hon.size
                      have on' := own_grownOwn oi hst8.1 on (by decide)
                      (try replace k14 := heap_grownOwn oi hst8.1 k14 (by decide))
                      replace hzw := Nat.le_trans hzw (grown_size hst8.1)
                      replace hon := hon.trans' (only_grown hst8.1) (fun k _ h => .inl h)
                      clear oi on k7 hst8
                      have oi := ho8
                      have on := on'
                      clear ho8 on'
                      refine hK9.out _ _ (HS _ (hon.mono fun k _ h => .inr h)) (fun hHeld => ?_)
                      clear hK9 K9
                      (try simp only [Act.put, List.getElem_toArray, List.getElem_cons_succ, List.getElem_cons_zero, List.setIfInBounds_toArray, List.set_cons_zero, List.set_cons_succ])
                      obtain ⟨wz, rfl⟩ : ∃ x, x = wn := ⟨_, rfl⟩
                      refine wpAnyH_ready (rs := [12]) (by kernel_rfl) (by simp) ?_
                      refine AllReadyH.cons (o := _) rfl ?_ AllReadyH.nil
                      intro K9 hK9
                      obtain ⟨t0, t1⟩ := HT _ hon
                      go_simp
                      clear t0 t1
                      refine hK9.out _ _ (HS _ (hon.mono fun k _ h => .inr h)) (fun hHeld => ?_)
                      clear hK9 K9
                      (try simp only [Act.put, List.getElem_toArray, List.getElem_cons_succ, List.getElem_cons_zero, List.setIfInBounds_toArray, List.set_cons_zero, List.set_cons_succ])
                      refine wpAnyH_ready (rs := [15]) (by kernel_rfl) (by simp) ?_
                      refine AllReadyH.cons (o := _) rfl ?_ AllReadyH.nil
                      intro K9 hK9
                      refine step_app2 rfl (.tmp 61) (.tmp 63) (by rfl) NodeE.enc nodeTV _ _ [(⟨m1, m2, mk, mc, mA, mp, mf⟩ : NodeE)] (nodesE l ids') (.slice nA' ids'.length nC') (by rfl) (by rfl) (m := 1) (n := ids'.length + 1) rfl (by rw [nodesE_len]) on (blk_slAt NodeE.enc (fr := (0, 0)) (e := 56) k14 [(⟨m1, m2, mk, mc, mA, mp, mf⟩ : NodeE)] rfl) (by omega) (by unfold maxLen; omega) hzw ?_
                      intro A15 c15 wn ho15 hm15 hst15
                      have hv15 := own_new hst15.2 hon.size
                      have oi' := own_grownOwn on hst15.1 oi (by decide)
                      replace hzw := Nat.le_trans hzw (grown_size hst15.1)
                      replace hon := hon.trans' (only_grown hst15.1) (fun k _ h => .inr h)
                      clear oi on k14 hst15
                      have on := ho15
                      have oi := oi'
                      clear ho15 oi'
                      refine hK9.out _ _ (HS _ (hon.mono fun k _ h => .inr h)) (fun hHeld => ?_)
                      clear hK9 K9
                      (try simp only [Act.put, List.getElem_toArray, List.getElem_cons_succ, List.getElem_cons_zero, List.setIfInBounds_toArray, List.set_cons_zero, List.set_cons_succ])
                      obtain ⟨wz, rfl⟩ : ∃ x, x = wn := ⟨_, rfl⟩
                      refine wpAnyH_cast (l' := #[true, true, true, true, true, true, true, true, true, true, true, true, true, true, true, true, false, false, false, false, false, false]) (by kernel_rfl) ?_
                      clear hHeld hm8 hm15
                      revert hv15
                      revert hv8
                      revert hzw
                      revert on
                      revert oi
                      revert hon
                      revert wz
                      revert c15
                      revert A15
                      revert c8
                      revert A8
                      revert g14
                      revert g7
                      exact final ()
                    · intro K9 hK9
                      obtain ⟨t0, t1⟩ := HT _ hon
                      go_simp
                      clear t0 t1
                      refine hK9.out _ _ (HS _ (hon.mono fun k _ h => .inr h)) (fun hHeld => ?_)
                      clear hK9 K9
                      (try simp only [Act.put, List.getElem_toArray, List.getElem_cons_succ, List.getElem_cons_zero, List.setIfInBounds_toArray, List.set_cons_zero, List.set_cons_succ])
                      refine wpAnyH_ready (rs := [8]) (by kernel_rfl) (by simp) ?_
                      refine AllReadyH.cons (o := _) rfl ?_ AllReadyH.nil
                      intro K9 hK9
                      refine step_app2 rfl (.tmp 54) (.tmp 56) (by rfl) IDE.enc idT _ _ [⟨x1, x2⟩] ids' (.slice iA' ids'.length iC') (by rfl) (by rfl) (m := 1) (n := ids'.length + 1) rfl rfl oi (blk_slAt IDE.enc (fr := (0, 0)) (e := 46) k7 [⟨x1, x2⟩] rfl) (by omega) (by unfold maxLen; omega) hzw ?_
                      intro A8 c8 wn ho8 hm8 hst8
                      have hv8 := own_new hst8.2 hon.size
                      have on' := own_grownOwn oi hst8.1 on (by decide)
                      (try replace k14 := heap_grownOwn oi hst8.1 k14 (by decide))
                      replace hzw := Nat.le_trans hzw (grown_size hst8.1)
                      replace hon := hon.trans' (only_grown hst8.1) (fun k _ h => .inl h)
                      clear oi on k7 hst8
                      have oi := ho8
                      have on := on'
                      clear ho8 on'
                      refine hK9.out _ _ (HS _ (hon.mono fun k _ h => .inr h)) (fun hHeld => ?_)
                      clear hK9 K9
                      (try simp only [Act.put, List.getElem_toArray, List.getElem_cons_succ, List.getElem_cons_zero, List.setIfInBounds_toArray, List.set_cons_zero, List.set_cons_succ])
                      obtain ⟨wz, rfl⟩ : ∃ x, x = wn := ⟨_, rfl⟩
                      refine wpAnyH_ready (rs := [15]) (by kernel_rfl) (by simp) ?_
                      refine AllReadyH.cons (o := _) rfl ?_ AllReadyH.nil
                      intro K9 hK9
                      refine step_app2 rfl (.tmp 61) (.tmp 63) (by rfl) NodeE.enc nodeTV _ _ [(⟨m1, m2, mk, mc, mA, mp, mf⟩ : NodeE)] (nodesE l ids') (.slice nA' ids'.length nC') (by rfl) (by rfl) (m := 1) (n := ids'.length + 1) rfl (by rw [nodesE_len]) on (blk_slAt NodeE.enc (fr := (0, 0)) (e := 56) k14 [(⟨m1, m2, mk, mc, mA, mp, mf⟩ : NodeE)] rfl) (by omega) (by unfold maxLen; omega) hzw ?_
                      intro A15 c15 wn ho15 hm15 hst15
                      have hv15 := own_new hst15.2 hon.size
                      have oi' := own_grownOwn on hst15.1 oi (by decide)
                      replace hzw := Nat.le_trans hzw (grown_size hst15.1)
                      replace hon := hon.trans' (only_grown hst15.1) (fun k _ h => .inr h)
                      clear oi on k14 hst15
                      have on := ho15
                      have oi := oi'
                      clear ho15 oi'
                      refine hK9.out _ _ (HS _ (hon.mono fun k _ h => .inr h)) (fun hHeld => ?_)
                      clear hK9 K9
                      (try simp only [Act.put, List.getElem_toArray, List.getElem_cons_succ, List.getElem_cons_zero, List.setIfInBounds_toArray, List.set_cons_zero, List.set_cons_succ])
                      obtain ⟨wz, rfl⟩ : ∃ x, x = wn := ⟨_, rfl⟩
                      refine wpAnyH_cast (l' := #[true, true, true, true, true, true, true, true, true, true, true, true, true, true, true, true, false, false, false, false, false, false]) (by kernel_rfl) ?_
                      clear hHeld hm8 hm15
                      revert hv15
                      revert hv8
                      revert hzw
                      revert on
                      revert oi
                      revert hon
                      revert wz
                      revert c15
                      revert A15
                      revert c8
                      revert A8
                      revert g14
                      revert g7
                      exact final ()
                  · intro K9 hK9
                    obtain ⟨t0, t1⟩ := HT _ hon
                    go_simp
                    clear t0 t1
                    refine hK9.out _ _ (HS _ (hon.mono fun k _ h => .inr h)) (fun hHeld => ?_)
                    clear hK9 K9
                    (try simp only [Act.put, List.getElem_toArray, List.getElem_cons_succ, List.getElem_cons_zero, List.setIfInBounds_toArray, List.set_cons_zero, List.set_cons_succ])
                    refine wpAnyH_ready (rs := [5]) (by kernel_rfl) (by simp) ?_
                    refine AllReadyH.cons (o := _) rfl ?_ AllReadyH.nil
                    intro K9 hK9
                    obtain ⟨t0, t1⟩ := HT _ hon
                    go_simp
                    clear t0 t1
                    refine hK9.out _ _ (HS _ (hon.mono fun k _ h => .inr h)) (fun hHeld => ?_)
                    clear hK9 K9
                    (try simp only [Act.put, List.getElem_toArray, List.getElem_cons_succ, List.getElem_cons_zero, List.setIfInBounds_toArray, List.set_cons_zero, List.set_cons_succ])
                    refine wpAnyH_ready (rs := [8]) (by kernel_rfl) (by simp) ?_
                    refine AllReadyH.cons (o := _) rfl ?_ AllReadyH.nil
                    intro K9 hK9
                    refine step_app2 rfl (.tmp 54) (.tmp 56) (by rfl) IDE.enc idT _ _ [⟨x1, x2⟩] ids' (.slice iA' ids'.length iC') (by rfl) (by rfl) (m := 1) (n := ids'.length + 1) rfl rfl oi (blk_slAt IDE.enc (fr := (0, 0)) (e := 46) k7 [⟨x1, x2⟩] rfl) (by omega) (by unfold maxLen; omega) hzw ?_
                    intro A8 c8 wn ho8 hm8 hst8
                    have hv8 := own_new hst8.2 hon.size
                    have on' := own_grownOwn oi hst8.1 on (by decide)
                    (try replace k14 := heap_grownOwn oi hst8.1 k14 (by decide))
                    replace hzw := Nat.le_trans hzw (grown_size hst8.1)
                    replace hon := hon.trans' (only_grown hst8.1) (fun k _ h => .inl h)
                    clear oi on k7 hst8
                    have oi := ho8
                    have on := on'
                    clear ho8 on'
                    refine hK9.out _ _ (HS _ (hon.mono fun k _ h => .inr h)) (fun hHeld => ?_)
                    clear hK9 K9
                    (try simp only [Act.put, List.getElem_toArray, List.getElem_cons_succ, List.getElem_cons_zero, List.setIfInBounds_toArray, List.set_cons_zero, List.set_cons_succ])
                    obtain ⟨wz, rfl⟩ : ∃ x, x = wn := ⟨_, rfl⟩
                    refine wpAnyH_ready (rs := [15]) (by kernel_rfl) (by simp) ?_
                    refine AllReadyH.cons (o := _) rfl ?_ AllReadyH.nil
                    intro K9 hK9
                    refine step_app2 rfl (.tmp 61) (.tmp 63) (by rfl) NodeE.enc nodeTV _ _ [(⟨m1, m2, mk, mc, mA, mp, mf⟩ : NodeE)] (nodesE l ids') (.slice nA' ids'.length nC') (by rfl) (by rfl) (m := 1) (n := ids'.length + 1) rfl (by rw [nodesE_len]) on (blk_slAt NodeE.enc (fr := (0, 0)) (e := 56) k14 [(⟨m1, m2, mk, mc, mA, mp, mf⟩ : NodeE)] rfl) (by omega) (by unfold maxLen; omega) hzw ?_
                    intro A15 c15 wn ho15 hm15 hst15
                    have hv15 := own_new hst15.2 hon.size
                    have oi' := own_grownOwn on hst15.1 oi (by decide)
                    replace hzw := Nat.le_trans hzw (grown_size hst15.1)
                    replace hon := hon.trans' (only_grown hst15.1) (fun k _ h => .inr h)
                    clear oi on k14 hst15
                    have on := ho15
                    have oi := oi'
                    clear ho15 oi'
                    refine hK9.out _ _ (HS _ (hon.mono fun k _ h => .inr h)) (fun hHeld => ?_)
                    clear hK9 K9
                    (try simp only [Act.put, List.getElem_toArray, List.getElem_cons_succ, List.getElem_cons_zero, List.setIfInBounds_toArray, List.set_cons_zero, List.set_cons_succ])
                    obtain ⟨wz, rfl⟩ : ∃ x, x = wn := ⟨_, rfl⟩
                    refine wpAnyH_cast (l' := #[true, true, true, true, true, true, true, true, true, true, true, true, true, true, true, true, false, false, false, false, false, false]) (by kernel_rfl) ?_
                    clear hHeld hm8 hm15
                    revert hv15
                    revert hv8
                    revert hzw
                    revert on
                    revert oi
                    revert hon
                    revert wz
                    revert c15
                    revert A15
                    revert c8
                    revert A8
                    revert g14
                    revert g7
                    exact final ()
                · intro K9 hK9
                  obtain ⟨t0, t1⟩ := HT _ hon
                  go_simp
                  clear t0 t1
                  refine hK9.out _ _ (HS _ (hon.mono fun k _ h => .inr h)) (fun hHeld => ?_)
                  clear hK9 K9
                  (try simp only [Act.put, List.getElem_toArray, List.getElem_cons_succ, List.getElem_cons_zero, List.setIfInBounds_toArray, List.set_cons_zero, List.set_cons_succ])
                  refine wpAnyH_ready (rs := [5, 7]) (by kernel_rfl) (by simp) ?_
                  refine AllReadyH.cons (o := _) rfl ?_ (AllReadyH.cons (o := _) rfl ?_ (AllReadyH.nil))
                  · intro K9 hK9
                    obtain ⟨t0, t1⟩ := HT _ hon
                    go_simp
                    clear t0 t1
                    refine hK9.out _ _ (HS _ (hon.mono fun k _ h => .inr h)) (fun hHeld => ?_)
                    clear hK9 K9
                    (try simp only [Act.put, List.getElem_toArray, List.getElem_cons_succ, List.getElem_cons_zero, List.setIfInBounds_toArray, List.set_cons_zero, List.set_cons_succ])
                    refine wpAnyH_ready (rs := [7]) (by kernel_rfl) (by simp) ?_
                    refine AllReadyH.cons (o := _) rfl ?_ AllReadyH.nil
                    intro K9 hK9
                    go_simp
                    refine hK9.out _ _ (HS _ ((hon.alloc _).mono fun k _ h => .inr h)) (fun hHeld => ?_)
                    clear hK9 K9
                    (try simp only [Act.put, List.getElem_toArray, List.getElem_cons_succ, List.getElem_cons_zero, List.setIfInBounds_toArray, List.set_cons_zero, List.set_cons_succ])
                    obtain ⟨g7, hg⟩ : ∃ g, g = wz.heap.size := ⟨_, rfl⟩
                    obtain ⟨wn, hwn⟩ : ∃ x, x = wz.alloc (.cells #[.int .i64 x1, .int .i64 x2] 46 (0, 0)) := ⟨_, rfl⟩
                    have k7 : wn.heap[g7]? = some (.cells #[.int .i64 x1, .int .i64 x2] 46 (0, 0)) := by rw [hwn, hg]; exact heap_alloc_new _ _
                    have hbn : Below wz.heap.size wz wn := by rw [hwn]; exact (by repeat (first | with_reducible exact Below.refl _ _ | (with_reducible refine Below.drew ?_) | (with_reducible refine below_drewN ?_ _) | (with_reducible refine Below.alloc ?_ ?_ _; rotate_left; (first | omega | (simp <;> omega))) | (with_reducible refine Below.setCell ?_ ?_ _; rotate_left; (first | omega | (simp <;> omega)))))
                    rw [← hwn, ← hg]
                    clear hwn hg hHeld
                    replace hon := hon.trans (Only.of_below hbn)
                    replace oi := oi.below hbn
                    replace on := on.below hbn
                    replace hzw := Nat.le_trans hzw hbn.size
                    (try replace k14 := blk_below k14 hbn)
                    clear hbn
                    obtain ⟨wz, rfl⟩ : ∃ x, x = wn := ⟨_, rfl⟩
                    have hHeld := HS _ (hon.mono fun k _ h => .inr h)
                    refine wpAnyH_ready (rs := [8]) (by kernel_rfl) (by simp) ?_
                    refine AllReadyH.cons (o := _) rfl ?_ AllReadyH.nil
                    intro K9 hK9
                    refine step_app2 rfl (.tmp 54) (.tmp 56) (by rfl) IDE.enc idT _ _ [⟨x1, x2⟩] ids' (.slice iA' ids'.length iC') (by rfl) (by rfl) (m := 1) (n := ids'.length + 1) rfl rfl oi (blk_slAt IDE.enc (fr := (0, 0)) (e := 46) k7 [⟨x1, x2⟩] rfl) (by omega) (by unfold maxLen; omega) hzw ?_
                    intro A8 c8 wn ho8 hm8 hst8
                    have hv8 := own_new hst8.2 hon.size
                    have on' := own_grownOwn oi hst8.1 on (by decide)
                    (try replace k14 := heap_grownOwn oi hst8.1 k14 (by decide))
                    replace hzw := Nat.le_trans hzw (grown_size hst8.1)
                    replace hon := hon.trans' (only_grown hst8.1) (fun k _ h => .inl h)
                    clear oi on k7 hst8
                    have oi := ho8
                    have on := on'
                    clear ho8 on'
                    refine hK9.out _ _ (HS _ (hon.mono fun k _ h => .inr h)) (fun hHeld => ?_)
                    clear hK9 K9
                    (try simp only [Act.put, List.getElem_toArray, List.getElem_cons_succ, List.getElem_cons_zero, List.setIfInBounds_toArray, List.set_cons_zero, List.set_cons_succ])
                    obtain ⟨wz, rfl⟩ : ∃ x, x = wn := ⟨_, rfl⟩
                    refine wpAnyH_ready (rs := [15]) (by kernel_rfl) (by simp) ?_
                    refine AllReadyH.cons (o := _) rfl ?_ AllReadyH.nil
                    intro K9 hK9
                    refine step_app2 rfl (.tmp 61) (.tmp 63) (by rfl) NodeE.enc nodeTV _ _ [(⟨m1, m2, mk, mc, mA, mp, mf⟩ : NodeE)] (nodesE l ids') (.slice nA' ids'.length nC') (by rfl) (by rfl) (m := 1) (n := ids'.length + 1) rfl (by rw [nodesE_len]) on (blk_slAt NodeE.enc (fr := (0, 0)) (e := 56) k14 [(⟨m1, m2, mk, mc, mA, mp, mf⟩ : NodeE)] rfl) (by omega) (by unfold maxLen; omega) hzw ?_
                    intro A15 c15 wn ho15 hm15 hst15
                    have hv15 := own_new hst15.2 hon.size
                    have oi' := own_grownOwn on hst15.1 oi (by decide)
                    replace hzw := Nat.le_trans hzw (grown_size hst15.1)
                    replace hon := hon.trans' (only_grown hst15.1) (fun k _ h => .inr h)
                    clear oi on k14 hst15
                    have on := ho15
                    have oi := oi'
                    clear ho15 oi'
                    refine hK9.out _ _ (HS _ (hon.mono fun k _ h => .inr h)) (fun hHeld => ?_)
                    clear hK9 K9
                    (try simp only [Act.put, List.getElem_toArray, List.getElem_cons_succ, List.getElem_cons_zero, List.setIfInBounds_toArray, List.set_cons_zero, List.set_cons_succ])
                    obtain ⟨wz, rfl⟩ : ∃ x, x = wn := ⟨_, rfl⟩
                    refine wpAnyH_cast (l' := #[true, true, true, true, true, true, true, true, true, true, true, true, true, true, true, true, false, false, false, false, false, false]) (by kernel_rfl) ?_
                    clear hHeld hm8 hm15
                    revert hv15
                    revert hv8
                    revert hzw
                    revert on
                    revert oi
                    revert hon
                    revert wz
                    revert c15
                    revert A15
                    revert c8
                    revert A8
                    revert g14
                    revert g7
                    exact final ()
                  · intro K9 hK9
                    go_simp
                    refine hK9.out _ _ (HS _ ((hon.alloc _).mono fun k _ h => .inr h)) (fun hHeld => ?_)
                    clear hK9 K9
                    (try simp only [Act.put, List.getElem_toArray, List.getElem_cons_succ, List.getElem_cons_zero, List.setIfInBounds_toArray, List.set_cons_zero, List.set_cons_succ])
                    obtain ⟨g7, hg⟩ : ∃ g, g = wz.heap.size := ⟨_, rfl⟩
                    obtain ⟨wn, hwn⟩ : ∃ x, x = wz.alloc (.cells #[.int .i64 x1, .int .i64 x2] 46 (0, 0)) := ⟨_, rfl⟩
                    have k7 : wn.heap[g7]? = some (.cells #[.int .i64 x1, .int .i64 x2] 46 (0, 0)) := by rw [hwn, hg]; exact heap_alloc_new _ _
                    have hbn : Below wz.heap.size wz wn := by rw [hwn]; exact (by repeat (first | with_reducible exact Below.refl _ _ | (with_reducible refine Below.drew ?_) | (with_reducible refine below_drewN ?_ _) | (with_reducible refine Below.alloc ?_ ?_ _; rotate_left; (first | omega | (simp <;> omega))) | (with_reducible refine Below.setCell ?_ ?_ _; rotate_left; (first | omega | (simp <;> omega)))))
                    rw [← hwn, ← hg]
                    clear hwn hg hHeld
                    replace hon := hon.trans (Only.of_below hbn)
                    replace oi := oi.below hbn
                    replace on := on.below hbn
                    replace hzw := Nat.le_trans hzw hbn.size
                    (try replace k14 := blk_below k14 hbn)
                    clear hbn
                    obtain ⟨wz, rfl⟩ : ∃ x, x = wn := ⟨_, rfl⟩
                    have hHeld := HS _ (hon.mono fun k _ h => .inr h)
                    refine wpAnyH_ready (rs := [5]) (by kernel_rfl) (by simp) ?_
                    refine AllReadyH.cons (o := _) rfl ?_ AllReadyH.nil
                    intro K9 hK9
                    obtain ⟨t0, t1⟩ := HT _ hon
                    go_simp
                    clear t0 t1
                    refine hK9.out _ _ (HS _ (hon.mono fun k _ h => .inr h)) (fun hHeld => ?_)
                    clear hK9 K9
                    (try simp only [Act.put, List.getElem_toArray, List.getElem_cons_succ, List.getElem_cons_zero, List.setIfInBounds_toArray, List.set_cons_zero, List.set_cons_succ])
                    refine wpAnyH_ready (rs := [8]) (by kernel_rfl) (by simp) ?_
                    refine AllReadyH.cons (o := _) rfl ?_ AllReadyH.nil
                    intro K9 hK9
                    refine step_app2 rfl (.tmp 54) (.tmp 56) (by rfl) IDE.enc idT _ _ [⟨x1, x2⟩] ids' (.slice iA' ids'.length iC') (by rfl) (by rfl) (m := 1) (n := ids'.length + 1) rfl rfl oi (blk_slAt IDE.enc (fr := (0, 0)) (e := 46) k7 [⟨x1, x2⟩] rfl) (by omega) (by unfold maxLen; omega) hzw ?_
                    intro A8 c8 wn ho8 hm8 hst8
                    have hv8 := own_new hst8.2 hon.size
                    have on' := own_grownOwn oi hst8.1 on (by decide)
                    (try replace k14 := heap_grownOwn oi hst8.1 k14 (by decide))
                    replace hzw := Nat.le_trans hzw (grown_size hst8.1)
                    replace hon := hon.trans' (only_grown hst8.1) (fun k _ h => .inl h)
                    clear oi on k7 hst8
                    have oi := ho8
                    have on := on'
                    clear ho8 on'
                    refine hK9.out _ _ (HS _ (hon.mono fun k _ h => .inr h)) (fun hHeld => ?_)
                    clear hK9 K9
                    (try simp only [Act.put, List.getElem_toArray, List.getElem_cons_succ, List.getElem_cons_zero, List.setIfInBounds_toArray, List.set_cons_zero, List.set_cons_succ])
                    obtain ⟨wz, rfl⟩ : ∃ x, x = wn := ⟨_, rfl⟩
                    refine wpAnyH_ready (rs := [15]) (by kernel_rfl) (by simp) ?_
                    refine AllReadyH.cons (o := _) rfl ?_ AllReadyH.nil
                    intro K9 hK9
                    refine step_app2 rfl (.tmp 61) (.tmp 63) (by rfl) NodeE.enc nodeTV _ _ [(⟨m1, m2, mk, mc, mA, mp, mf⟩ : NodeE)] (nodesE l ids') (.slice nA' ids'.length nC') (by rfl) (by rfl) (m := 1) (n := ids'.length + 1) rfl (by rw [nodesE_len]) on (blk_slAt NodeE.enc (fr := (0, 0)) (e := 56) k14 [(⟨m1, m2, mk, mc, mA, mp, mf⟩ : NodeE)] rfl) (by omega) (by unfold maxLen; omega) hzw ?_
                    intro A15 c15 wn ho15 hm15 hst15
                    have hv15 := own_new hst15.2 hon.size
                    have oi' := own_grownOwn on hst15.1 oi (by decide)
                    replace hzw := Nat.le_trans hzw (grown_size hst15.1)
                    replace hon := hon.trans' (only_grown hst15.1) (fun k _ h => .inr h)
                    clear oi on k14 hst15
                    have on := ho15
                    have oi := oi'
                    clear ho15 oi'
                    refine hK9.out _ _ (HS _ (hon.mono fun k _ h => .inr h)) (fun hHeld => ?_)
                    clear hK9 K9
                    (try simp only [Act.put, List.getElem_toArray, List.getElem_cons_succ, List.getElem_cons_zero, List.setIfInBounds_toArray, List.set_cons_zero, List.set_cons_succ])
                    obtain ⟨wz, rfl⟩ : ∃ x, x = wn := ⟨_, rfl⟩
                    refine wpAnyH_cast (l' := #[true, true, true, true, true, true, true, true, true, true, true, true, true, true, true, true, false, false, false, false, false, false]) (by kernel_rfl) ?_
                    clear hHeld hm8 hm15
                    revert hv15
                    revert hv8
                    revert hzw
                    revert on
                    revert oi
                    revert hon
                    revert wz
                    revert c15
                    revert A15
                    revert c8
                    revert A8
                    revert g14
                    revert g7
                    exact final ()
            · clear hHeld on oi hon hzw wz
              intro g7 g14 A8 c8 A15 c15 wz hon oi on hzw hv8 hv15
              have hHeld := HS _ (hon.mono fun k _ h => .inr h)
              have hgz := hon.boxed ht8 hnt
              have bt := boxed hgz
              have bt0 := bt wz
              refine wpAnyH_take (i := 16) (oi := _) (v := ?_) rfl (by kernel_rfl) (by kernel_rfl) (by kernel_rfl) (fun _ _ _ h => h) (Or.inl ⟨by rfl, ?_⟩) (by assumption) ?_
              rotate_left 1
              · (intro wy hSw; (try dsimp only at hSw); obtain ⟨s1, s2, s3, s4, s5, s6, s7, s8⟩ := hSw; go_simp; try with_reducible rfl)
              (try simp only [Act.put, List.getElem_toArray, List.getElem_cons_succ, List.getElem_cons_zero, List.setIfInBounds_toArray, List.set_cons_zero, List.set_cons_succ])
              refine wpAnyH_take (i := 17) (oi := _) (v := ?_) rfl (by kernel_rfl) (by kernel_rfl) (by kernel_rfl) (fun _ _ _ h => h) (Or.inl ⟨by rfl, ?_⟩) (by assumption) ?_
              rotate_left 1
              · (intro wy hSw; (try dsimp only at hSw); obtain ⟨s1, s2, s3, s4, s5, s6, s7, s8⟩ := hSw; go_simp; try with_reducible rfl)
              (try simp only [Act.put, List.getElem_toArray, List.getElem_cons_succ, List.getElem_cons_zero, List.setIfInBounds_toArray, List.set_cons_zero, List.set_cons_succ])
              refine wpAnyH_ready (rs := [18]) (by kernel_rfl) (by simp) ?_
              refine AllReadyH.cons (o := _) rfl ?_ AllReadyH.nil
              intro K9 hK9
              go_simp
              refine hK9.out _ _ (HS _ ((hon.mono fun k _ h => .inr h).setCell (.inl (.inl rfl)) _)) (fun hHeld => ?_)
              clear hK9 K9 bt0
              (try simp only [Act.put, List.getElem_toArray, List.getElem_cons_succ, List.getElem_cons_zero, List.setIfInBounds_toArray, List.set_cons_zero, List.set_cons_succ])
              obtain ⟨wy, hwy⟩ : ∃ x, wz.setCell ⟨gt, 0, none⟩ (.slice A8 (ids'.length + 1) c8) = x := ⟨_, rfl⟩
              have bty := boxed_set bt hwy
              have bt1 := bty wy
              simp only [List.setIfInBounds_toArray, List.set_cons_zero] at bt1
              have hony : Only (fun k => k = gt ∨ (Value.slice iA' ids'.length iC').ownBlock = some k ∨ (Value.slice nA' ids'.length nC').ownBlock = some k) w8 wy := by rw [← hwy]; exact (hon.mono fun k _ h => .inr h).setCell (.inl (.inl rfl)) _
              have onzy : Only (fun k => k = gt) wz wy := by rw [← hwy]; exact (Only.refl (s := fun k => k = gt)).setCell (.inl rfl) _
              rw [hwy] at hHeld ⊢
              refine wpAnyH_take (i := 19) (oi := _) (v := ?_) rfl (by kernel_rfl) (by kernel_rfl) (by kernel_rfl) (fun _ _ _ h => h) (Or.inl ⟨by rfl, ?_⟩) (by assumption) ?_
              rotate_left 1
              · (intro wy hSw; (try dsimp only at hSw); obtain ⟨s1, s2, s3, s4, s5, s6, s7, s8⟩ := hSw; go_simp; try with_reducible rfl)
              (try simp only [Act.put, List.getElem_toArray, List.getElem_cons_succ, List.getElem_cons_zero, List.setIfInBounds_toArray, List.set_cons_zero, List.set_cons_succ])
              refine wpAnyH_take (i := 20) (oi := _) (v := ?_) rfl (by kernel_rfl) (by kernel_rfl) (by kernel_rfl) (fun _ _ _ h => h) (Or.inl ⟨by rfl, ?_⟩) (by assumption) ?_
              rotate_left 1
              · (intro wy hSw; (try dsimp only at hSw); obtain ⟨s1, s2, s3, s4, s5, s6, s7, s8⟩ := hSw; go_simp; try with_reducible rfl)
              (try simp only [Act.put, List.getElem_toArray, List.getElem_cons_succ, List.getElem_cons_zero, List.setIfInBounds_toArray, List.set_cons_zero, List.set_cons_succ])
              refine wpAnyH_ready (rs := [21]) (by kernel_rfl) (by simp) ?_
              refine AllReadyH.cons (o := _) rfl ?_ AllReadyH.nil
              intro K9 hK9
              go_simp
              refine hK9.out _ _ (HS _ (hony.setCell (.inl (.inl rfl)) _)) (fun hHeld => ?_)
              clear hK9 K9 bt1
              refine wpAnyH_done (by kernel_rfl) ?_ _
              go_wp2_with fail
              go_end0
              have hln : (ids' ++ [(⟨x1, x2⟩ : IDE)]).length = ids'.length + 1 := by simp
              have onu : Only (fun k => k = gt ∨ (Value.slice iA' ids'.length iC').ownBlock = some k ∨ (Value.slice nA' ids'.length nC').ownBlock = some k) w8 (wy.setCell ⟨gt, 1, none⟩ (.slice A15 (ids'.length + 1) c15)) := hony.setCell (.inl (.inl rfl)) _
              have onzu : Only (fun k => k = gt) wz (wy.setCell ⟨gt, 1, none⟩ (.slice A15 (ids'.length + 1) c15)) := onzy.setCell (.inl rfl) _
              have btu := (boxed_set bty (u := wy) (i := 1) (v := .slice A15 (ids'.length + 1) c15) rfl (wy.setCell ⟨gt, 1, none⟩ (.slice A15 (ids'.length + 1) c15))).1
              generalize wy.setCell ⟨gt, 1, none⟩ (.slice A15 (ids'.length + 1) c15) = u2 at onu onzu btu ⊢
              have hsz := hb5.size
              have hs4 := on4.size
              have hs58 := on58.size
              have hgt8 := blk_lt ht8
              have hvz : ∀ k, (k = gt ∨ (Value.slice iA' ids'.length iC').ownBlock = some k ∨ (Value.slice nA' ids'.length nC').ownBlock = some k) → VS gI gt (.slice iA ids.length iC) (.slice nA ids.length nC) k ∨ w5.heap.size ≤ k := fun k h => by
                rcases h with h | h
                · exact .inl (.inr (.inl h))
                · exact hvs'.out k h
              refine ⟨rfl, ids' ++ [⟨x1, x2⟩], A8, c8, A15, c15, ⟨lw8.trans (onu.below (fun k hk => Sr.base (.inr hk)) lw8.size), Sr.zt, Sr.zi, onu.boxed h28 hn2, onu.boxed h38 hn3, onu.boxed h48 hn4, ?_, ?_, ?_, ?_⟩, hDp.out, (fun y hy => List.mem_append_left _ (hsub.out y hy)), (fun _ => .inl (List.mem_append_right _ List.mem_cons_self)), ((on4.trans (Only.of_below hb5)).trans' on58 (fun _ _ h => h)).trans' onu (fun k hk h => ?_), fun k hk => ?_⟩
              · obtain ⟨es, ck, h1, h2⟩ := M8
                exact ⟨es, ck, onu.boxed h1 hnI, h2⟩
              · rw [hln, btu]
                simp
              · rw [hln]
                exact onzu.own oi (fun g hg e => own_off oi hgz (by decide) (e ▸ hg))
              · rw [hln, nodesE_snoc hfe.out]
                exact onzu.own on (fun g hg e => own_off on hgz (by decide) (e ▸ hg))
              · rcases hvz k h with h | h
                · exact h
                · omega
              · rw [hln] at hk
                rcases hk with h | h | h | h
                · exact .inl (.inl h)
                · exact .inl (.inr (.inl h))
                · rcases hv8 k h with h | h
                  · rcases hvz k (.inr (.inl h)) with h | h
                    · exact .inl h
                    · exact .inr (by omega)
                  · exact .inr (by omega)
                · rcases hv15 k h with h | h
                  · rcases hvz k (.inr (.inr h)) with h | h
                    · exact .inl h
                    · exact .inr (by omega)
                  · exact .inr (by omega)
end Go.Proofs.Ytffnogjgnpbjlaa
