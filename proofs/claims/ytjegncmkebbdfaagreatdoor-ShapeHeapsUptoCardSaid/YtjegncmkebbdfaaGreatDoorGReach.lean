/-
  Contracts of the functions of this seat that each theorem names: what a call returns, and that it writes nothing that was there before. The conditions stand in each theorem.
-/
import Derived.Test.YtjegncmkebbdfaaGreatDoorGBack
import Derived.Test.YtjegncmkebbdfaaGreatDoorGSet
import Derived.Test.YtjegncmkebbdfaaGreatDoorGCompact
import Derived.Test.YtjegncmkebbdfaaGreatDoorGrp30
set_option linter.unusedSimpArgs false
set_option linter.unusedVariables false
namespace Go.Proofs.YtjegncmkebbdfaaGreatDoor
open Go.RowKit
attribute [local go_sem] Oper.semAt_some
attribute [local go_sem ↓] run_eql_id run_neq_id
theorem zeroNode (w : World) : (zeroValue 51).run Tryz.prog w = .ok (.agg #[.int .i64 0, .int .i64 0, .int .i64 0, .int .i64 0, .slice none 0 0]) w := by kernel_rfl
theorem fillN_all (l : List NodeE) : fillB NodeE.id (backL l l.length) = firstE l := by rw [fillB_all]; rfl
set_option maxRecDepth 100000 in
set_option maxHeartbeats 8000000 in
theorem reach_any (A : Option Addr) (c : Nat) (l : List NodeE) (RA : Option Addr) (rc : Nat) (roots : List IDE) (w : World) (H : NodesAt w A l) (hs : SlAt IDE.cells 2 w RA roots) (hl : l.length ≤ 10000) (hf : ∀ n ∈ l, n.fields.length ≤ 10000) (hr : roots.length ≤ 10000) :
    Calls Tryz.prog 20 #[.agg #[.slice A l.length c], .slice RA roots.length rc] w (ReachPost (conL l) roots w) := by
  have HL := H.later
  have HR : ∀ u [Later w u], SlAt IDE.cells 2 u RA roots := fun u i => hs.below i.below
  have hll : (conL l).length = l.length := by unfold conL; rw [List.length_map]
  have hmm := @run_makeMap Tryz.prog
  refine calls_marks Tryz.func20 rfl ?_
  simp only [Tryz.ntmps20, List.size_toArray, List.length_cons, List.length_nil, Nat.reduceAdd, Nat.reduceSub, Array.replicate_succ, Array.replicate_zero, List.push_toArray, List.append_toArray, List.nil_append, List.cons_append]
  go_wp2_with (go_at_call 47; refine (backNode_mk _ A l.length c _ rfl).mono ?_; rintro e w' ⟨rfl, rfl⟩)
  clear hmm
  refine wp_name ?_
  intro w1 hw1
  have b0 : w1.heap[w.heap.size]? = some (.cells #[.slice A l.length c] 27 (0, 0)) := (by rw [← hw1]; simp only [heap_alloc_if, World.size_alloc]; repeat (first | rw [if_pos trivial] | rw [if_neg (by omega)] | rw [if_pos (by omega)]); try rfl)
  have b1 : w1.heap[w.heap.size + 1]? = some (.map #[] 0) := (by rw [← hw1]; simp only [heap_alloc_if, World.size_alloc]; repeat (first | rw [if_pos trivial] | rw [if_neg (by omega)] | rw [if_pos (by omega)]); try rfl)
  have b2 : w1.heap[w.heap.size + 1 + 1]? = some (.cells #[.map (some (w.heap.size + 1))] 60 (0, 0)) := (by rw [← hw1]; simp only [heap_alloc_if, World.size_alloc]; repeat (first | rw [if_pos trivial] | rw [if_neg (by omega)] | rw [if_pos (by omega)]); try rfl)
  have b3 : w1.heap[w.heap.size + 1 + 1 + 1]? = some (.cells #[.slice A l.length c] 25 (0, 0)) := (by rw [← hw1]; simp only [heap_alloc_if, World.size_alloc]; repeat (first | rw [if_pos trivial] | rw [if_neg (by omega)] | rw [if_pos (by omega)]); try rfl)
  have hz1 : w1.heap.size = w.heap.size + 1 + 1 + 1 + 1 := by rw [← hw1]; simp
  have hb1 : Below w.heap.size w w1 := by rw [← hw1]; exact (by repeat (first | with_reducible exact Below.refl _ _ | (with_reducible refine Below.drew ?_) | (with_reducible refine below_drewN ?_ _) | (with_reducible refine Below.alloc ?_ ?_ _; rotate_left; (first | omega | (simp <;> omega))) | (with_reducible refine Below.setCell ?_ ?_ _; rotate_left; (first | omega | (simp <;> omega)))))
  have hM1 : MapFn IDE.vv NodeE.v w1 (w.heap.size + 1) (fillB NodeE.id []) := ⟨#[], 0, b1, by simp, by simp [fillB], by simp⟩
  clear hw1 b1
  refine wp_rangeBoxed (gf := 95) (lb := #[.pointer (some ⟨w.heap.size + 1 + 1 + 1, 0, none⟩)]) rfl (enters_of Tryz.func95 (by kernel_rfl) rfl) (backNode_stops 8 (by omega) (w.heap.size + 1 + 1 + 1) 25 A c l (by omega) w H.s w1 hb1 b3) (by omega) (by omega) (Below.refl _ _) (fun _ => rfl)
    (fun pre W => MapFn IDE.vv NodeE.v W (w.heap.size + 1) (fillB NodeE.id pre) ∧ W.heap[w.heap.size]? = some (.cells #[.slice A l.length c] 27 (0, 0)) ∧ W.heap[w.heap.size + 1 + 1]? = some (.cells #[.map (some (w.heap.size + 1))] 60 (0, 0)) ∧
      W.heap[w.heap.size + 1 + 1 + 1]? = some (.cells #[.slice A l.length c] 25 (0, 0)) ∧ Below w.heap.size w W ∧ w1.heap.size ≤ W.heap.size)
    ?hI (fun _ _ h => h.2.2.2.2.2) ⟨hM1, b0, b2, b3, hb1, Nat.le_refl _⟩ (arr := fun x => x.2.arr) (T := 51) (tm := ?tm) ?hassign ?hbody ?hdone
  case hI =>
    refine ownFrom_of ?_
    rintro s W W' ⟨hM, h0, h2, h3, hb, hz⟩ hk hB hs
    exact ⟨hM.of_heap (by have := hM.lt; obtain ⟨o, ho⟩ : ∃ o, W.heap[w.heap.size + 1]? = some o := ⟨_, Array.getElem?_eq_getElem this⟩; rw [ho]; exact hk _ _ (by omega) ho), hk _ _ (by omega) h0, hk _ _ (by omega) h2, hk _ _ (by omega) h3, hb.trans (hB _ (by omega) (by omega)), by omega⟩
  case hassign =>
    intro l x W Bx K hB hK
    simp only [NodeE.enc2]
    gi_wp2
    rfl
  case hbody =>
    rintro l pre x Bx W h1 h2 h3 ⟨hM, h0, hv, hs', hb, hz⟩ hlen
    have X : Boxed W Bx x.2.arr 51 := boxed h3
    have V := boxed hv
    obtain ⟨U, hU1, hU2, hU3, hU4⟩ := run_store keyI Tryz.underlying60 hM
    have hF := hide (hU2 W x.2.id x.2)
    have hU1' := fun (u : World) [Later W u] => hU1 u x.2.id x.2
    dsimp only [IDE.vv, NodeE.id, NodeE.v] at hU1'
    clear hU2
    gi_wp2
    exact ⟨keepsFrom_putAt (by omega), KpB.putAt (by omega) (by omega), by rw [fillB_snoc]; exact hF.out, by rw [putAt_heap (by omega)]; exact h0, by rw [putAt_heap (by omega)]; exact hv, by rw [putAt_heap (by omega)]; exact hs', putAt_below hb (by omega), by rw [putAt_size]; omega⟩
  case hdone =>
    rintro D ys W hD rfl ⟨hM, h0, hv, hs', hb, hz⟩ hK
    rw [fillN_all] at hM
    have B0 := boxed h0
    have V := boxed hv
    have HD := there_of hK
    have hlk : ∀ (u : World) [Later W u] (x : IDE), (Instr.lookup 60 (.map (some (w.heap.size + 1))) (.agg #[.int .i64 x.machine, .int .i64 x.serial]) true).run Tryz.prog u = .ok (.tuple #[(firstE l x).elim (.agg #[.int .i64 0, .int .i64 0, .int .i64 0, .int .i64 0, .slice none 0 0]) NodeE.v, .bool (firstE l x).isSome]) u :=
      fun u i x => run_look_ok keyI Tryz.underlying60 zeroNode (hM.later u) x
    have lw : Later w W := ⟨hb⟩
    have hDl := blk_lt hK
    have hmm := @run_makeMap Tryz.prog
    clear hM h0 hv hs' hK b0 b2 b3 hM1 hb1 H hs
    go_upto_region 6 with fail
    refine wp_name ?_
    intro w5 hw5
    have b5 : w5.heap[W.heap.size]? = some (.map #[] 0) := by rw [← hw5]; exact heap_alloc_new _ _
    have hM5 : MapFn IDE.vv Value.bool w5 W.heap.size (memM []) := ⟨#[], 0, b5, by simp, by simp [memM], by simp⟩
    have hb5 : Below W.heap.size W w5 := by rw [← hw5]; exact (by repeat (first | with_reducible exact Below.refl _ _ | (with_reducible refine Below.drew ?_) | (with_reducible refine below_drewN ?_ _) | (with_reducible refine Below.alloc ?_ ?_ _; rotate_left; (first | omega | (simp <;> omega))) | (with_reducible refine Below.setCell ?_ ?_ _; rotate_left; (first | omega | (simp <;> omega)))))
    have hz5 := hide (show w5.heap.size = W.heap.size + 1 by rw [← hw5]; simp)
    have l5 := later hb5
    clear hw5 b5 hmm
    go_wp2_with (go_at_call 48; refine (cloneI_any RA rc roots _ (HR _) (by omega)).mono ?_; rintro r w6 ⟨A6, c6, rfl, h61, h62, ho6, hb6⟩; have l6 := later hb6)
    have hz6 := hb6.size
    have hM6 := hM5.below hb6
    have hb06 : Below W.heap.size W w6 := hb5.trans (hb6.mono hb5.size)
    clear hM5 hb5 hb6
    go_loopw [9, 10] (fun ov tv wr => ∃ (O T : List IDE) (OA TA : Option Addr) (Oc Tc : Nat), ov = .slice OA O.length Oc ∧ tv = .slice TA T.length Tc ∧ O.Nodup ∧ DInv (conL l) roots O T ∧ T.length ≤ 10000 + O.length * 10000 ∧
      Own IDE.cells 2 44 w5.heap.size wr (.slice OA O.length Oc) O ∧ Own IDE.cells 2 44 w5.heap.size wr (.slice TA T.length Tc) T ∧ Apart (.slice OA O.length Oc) (.slice TA T.length Tc) ∧ MapFn IDE.vv Value.bool wr W.heap.size (memM O) ∧ Below W.heap.size W wr ∧ w5.heap.size ≤ wr.heap.size) (fun ov tv _ => (l.length - lenV ov) * 20000 + lenV tv)
    case atStart => exact ⟨[], roots, none, A6, 0, c6, rfl, rfl, List.nodup_nil, DInv.start _ _, by simp; omega, Own.nil, ho6, Apart.nil, hM6, hb06, hz6⟩
    case round =>
      obtain ⟨O, T, OA, TA, Oc, Tc, rfl, rfl, hnd, hinv, htl, hoO, hoT, hap, hM, hbr, hzr⟩ := hrel
      have lr := later hbr
      have hOn := reach_len (l := conL l) hnd (reach_in hinv)
      rw [hll] at hOn
      have htl' : T.length ≤ 1000000000 := by omega
      by_cases hlt : 0 < T.length
      · obtain ⟨j, hj⟩ : ∃ j : Nat, T.length = j + 1 := ⟨T.length - 1, by omega⟩
        have hj1 : ((T.length : Int) - 1) = (j : Int) := by omega
        have hjw : IntKind.i64.wrap (j : Int) = (j : Int) := by rw [IntKind.wrap_i64]; omega
        have hjl : (j : Int) < (T.length : Int) := by omega
        have hj0 : (0 : Int) ≤ (j : Int) := by omega
        have hTc := (hoT.at_ IDE.enc).2.1
        have hjc : (j : Int) ≤ (Tc : Int) := by omega
        have hTc0 : ¬ Tc = 0 := by omega
        obtain ⟨gT, hgT⟩ := hoT.isSome (by rintro rfl; simp at hlt)
        subst hgT
        have hcut := hoT.cut IDE.enc (k := j) (by omega)
        obtain ⟨x, hx⟩ : ∃ x, T[j]? = some x := ⟨_, List.getElem?_eq_getElem (by omega)⟩
        obtain ⟨b1, o1, e1, C1, C2⟩ := id_at ((hoT.at_ IDE.enc).2.2) hx
        injection e1 with e1
        injection e1 with e1 e2
        subst e1 e2
        have hTx : T = T.take j ++ [x] := by
          rw [← take_snoc_get hx, List.take_of_length_le (by omega)]
        have hdr := hide (show ∀ y, y ∈ T ↔ y = x ∨ y ∈ T.take j by
          intro y
          conv => lhs; rw [hTx]
          rw [List.mem_append, List.mem_singleton]; exact Or.comm)
        have Hinv := hide hinv
        have Hnd := hide hnd
        have Hj := hide hj
        have HTl : (T.take j).length = j := by rw [List.length_take]; omega
        simp only [Nat.zero_add] at C1 C2
        have hlkx := fun (u : World) [Later W u] => hlk u x
        have hsx : ∀ (u : World) [Later wr u], (Instr.lookup 91 (.map (some W.heap.size)) (.agg #[.int .i64 x.machine, .int .i64 x.serial]) false).run Tryz.prog u = .ok (.bool (decide (x ∈ O))) u := fun u i => by
          have := run_look keyI Tryz.underlying91 zeroBool (hM.later u) x
          rw [memM_look] at this
          exact this
        clear hx hTx hinv hnd hj hoT hlk
        cases hfx : firstE l x with
        | none =>
          simp only [hfx, Option.elim_none, Option.isSome_none] at hlkx
          have hfn := hide (show firstN (conL l) x = none by rw [firstE_N, hfx]; rfl)
          clear hfx
          go_wp2_with fail
          go_roundw
          case rel => exact ⟨O, T.take j, OA, _, Oc, Tc, rfl, by rw [HTl], Hnd.out, Hinv.out.skip hdr.out (fun h => by rw [hfn.out] at h; cases h), by omega, hoO.later _, by rw [HTl]; exact hcut.later _, by rw [HTl]; exact hap, hM.later _, below_of, Nat.le_trans hzr (show Below wr.heap.size wr _ from below_of).size⟩
          case measure => simp [lenV]; omega
        | some m =>
          obtain ⟨hml, hmid⟩ := firstE_some hfx
          have hmf := hf m hml
          have hFd : ∀ u [Later w u], SlAt ValE.cells 4 u m.A m.fields := fun u j => (HL u).f m hml
          have hfn := hide (show firstN (conL l) x = some m.con by rw [firstE_N, hfx]; rfl)
          simp only [hfx, Option.elim_some, Option.isSome_some] at hlkx
          have hid := hide (show x ∈ ids (conL l) from firstN_ids.1 (by rw [hfn.out]; rfl))
          clear hfx hml hmid hf
          obtain ⟨m1, m2, mk, mc, mA, mp, mf⟩ := m
          dsimp only at hmf hFd hlkx
          by_cases hin : x ∈ O
          · simp only [hin, decide_true] at hsx
            go_wp2_with fail
            go_roundw
            case rel => exact ⟨O, T.take j, OA, _, Oc, Tc, rfl, by rw [HTl], Hnd.out, Hinv.out.skip hdr.out (fun _ => hin), by omega, hoO.later _, by rw [HTl]; exact hcut.later _, by rw [HTl]; exact hap, hM.later _, below_of, Nat.le_trans hzr (show Below wr.heap.size wr _ from below_of).size⟩
            case measure => simp [lenV]; omega
          · simp only [hin, decide_false] at hsx
            have hON := hide (show O.length < l.length by rw [← hll]; exact reach_room Hnd.out (reach_in Hinv.out) hid.out hin)
            obtain ⟨U, hU1, hU2, hU3, hU4⟩ := run_store keyI Tryz.underlying91 hM
            have hU1' := fun (u : World) [Later wr u] => hU1 u x true
            dsimp only [IDE.vv] at hU1'
            go_upto_region 13 with fail
            refine wp_name ?_
            intro w7 hw7
            obtain ⟨B11, B12, l7⟩ := box2 hw7
            clear hw7
            have hF := hide (hU2 w7 x true)
            clear hU1 hU2
            go_upto_region 14 with fail
            refine wp_name ?_
            intro w8 hw8
            have hz5' := hz5.out
            have M1 : MapFn IDE.vv Value.bool w8 W.heap.size (memM (O ++ [x])) := by rw [← hw8, ← memM_snoc]; exact hF.out
            have l8 := later_putAt (W := W) (g := W.heap.size) (Nat.le_refl _) hw8
            have B11' := boxed_putAt B11 (g := W.heap.size) (by omega) hw8
            have B12' := boxed_putAt B12 (g := W.heap.size) (by omega) hw8
            have hneO : (Value.slice OA O.length Oc).ownBlock ≠ some W.heap.size := fun e => by have := (World.ownsRow.lt hoO _ e).1; omega
            have hneT : (Value.slice (some ⟨gT, 0, none⟩) j Tc).ownBlock ≠ some W.heap.size := fun e => by have := (World.ownsRow.lt hcut _ e).1; omega
            have hoO8 : Own IDE.cells 2 44 w5.heap.size w8 (.slice OA O.length Oc) O := by rw [← hw8]; exact (hoO.later w7).putAt hneO
            have hoT8 : Own IDE.cells 2 44 w5.heap.size w8 (.slice (some ⟨gT, 0, none⟩) j Tc) (T.take j) := by rw [← hw8]; exact (hcut.later w7).putAt hneT
            have hb8 : Below W.heap.size W w8 := by rw [← hw8]; exact putAt_below (show Below W.heap.size W w7 from below_of) (Nat.le_refl _)
            have hz8 : w5.heap.size ≤ w8.heap.size := by rw [← hw8, putAt_size]; exact Nat.le_trans hzr (show Below wr.heap.size wr w7 from below_of).size
            have l88 : Later w8 w8 := Later.refl
            clear hw8 hU1' hU3 hU4 hF hM hsx hlkx hz5' B11 B12 l7
            have hgW : W.heap.size < w5.heap.size := by have := hz5.out; omega
            have hOl := hide (show O.length + 1 = (O ++ [x]).length by simp)
            have hnd2 := hide (show (O ++ [x]).Nodup by
              refine List.nodup_append.2 ⟨Hnd.out, by simp, fun a ha b hb => ?_⟩
              rw [List.mem_singleton] at hb; subst hb
              intro e; exact hin (e ▸ ha))
            have hmem2 := hide (show ∀ y, y ∈ O ++ [x] ↔ y = x ∨ y ∈ O by intro y; rw [List.mem_append, List.mem_singleton]; exact Or.comm)
            by_cases hk2 : mk = 2
            · subst hk2
              go_wp2_with (at_builtin; refine wpList_app1 rfl (.tmp 58) (.tmp 60) rfl IDE.enc idT x rfl rfl rfl (hoO8.later _) (by rfl) (by omega) (by unfold maxLen; omega) (Nat.le_trans hz8 (show Below w8.heap.size w8 _ from below_of).size) ?_; intro A9 c9 w9 ho9 hm9 hb9 hg9 hat9; have hst : Step w8 w9 (.slice OA O.length Oc) (.slice A9 (O.length + 1) c9) := (Step.of_below (below_of (b := w8))).trans ⟨hg9, hat9⟩; have hT9 := hst.own hoT8 hap; have BX9 := boxed (hst.keep hoO8 (B12' w8).1 (by decide)); have hb89 : Below w5.heap.size w8 w9 := (show Below w8.heap.size w8 _ from below_of).mono hz8 |>.trans hb9; have hM9 := M1.of_heap (hb89.block _ hgW); have hb9W : Below W.heap.size W w9 := hb8.trans (hb89.mono (Nat.le_of_lt hgW)); have hz9 : w5.heap.size ≤ w9.heap.size := Nat.le_trans hz8 hb89.size; have l9 := later hb9W; have l99 : Later w9 w9 := Later.refl)
              go_roundw
              case rel => exact ⟨O ++ [x], T.take j, A9, _, c9, Tc, by rw [← hOl.out], by rw [HTl], hnd2.out, Hinv.out.visit hdr.out hfn.out hmem2.out (fun y => ⟨.inl, fun h => by rcases h with h | h; exact h; cases h⟩), by rw [← hOl.out]; omega, by rw [← hOl.out]; exact ho9.later _, by rw [HTl]; exact hT9.1.later _, by rw [HTl, ← hOl.out]; exact hT9.2, hM9.later _, below_of, Nat.le_trans hz9 (show Below w9.heap.size w9 _ from below_of).size⟩
              case measure => have h1 := hOl.out; have h2 := hON.out; simp [lenV]; omega
            · go_wp2_with (at_builtin; refine wpList_app1 rfl (.tmp 58) (.tmp 60) rfl IDE.enc idT x rfl rfl rfl (hoO8.later _) (by rfl) (by omega) (by unfold maxLen; omega) (Nat.le_trans hz8 (show Below w8.heap.size w8 _ from below_of).size) ?_; intro A9 c9 w9 ho9 hm9 hb9 hg9 hat9; have hst : Step w8 w9 (.slice OA O.length Oc) (.slice A9 (O.length + 1) c9) := (Step.of_below (below_of (b := w8))).trans ⟨hg9, hat9⟩; have hT9 := hst.own hoT8 hap; have BX9 := boxed (hst.keep hoO8 (B12' w8).1 (by decide)); have hb89 : Below w5.heap.size w8 w9 := (show Below w8.heap.size w8 _ from below_of).mono hz8 |>.trans hb9; have hM9 := M1.of_heap (hb89.block _ hgW); have hb9W : Below W.heap.size W w9 := hb8.trans (hb89.mono (Nat.le_of_lt hgW)); have hz9 : w5.heap.size ≤ w9.heap.size := Nat.le_trans hz8 hb89.size; have l9 := later hb9W; have l99 : Later w9 w9 := Later.refl)
              clear l88 B11' B12' M1 hoO8 hoT8 hb8 hz8 l8 hneO hneT hcut hoO
              go_loopw [10, 68] (fun tv kv w3 => ∃ (k : Nat) (TB : Option Addr) (Td : Nat) (T' : List IDE), k ≤ mf.length ∧ kv = .int .i64 k ∧ Hid (T' = T.take j ++ refsTo mf k) ∧ tv = .slice TB T'.length Td ∧ Own IDE.cells 2 44 w5.heap.size w3 (.slice TB T'.length Td) T' ∧
                Own IDE.cells 2 44 w5.heap.size w3 (.slice A9 (O.length + 1) c9) (O ++ [x]) ∧ Apart (.slice A9 (O.length + 1) c9) (.slice TB T'.length Td) ∧ MapFn IDE.vv Value.bool w3 W.heap.size (memM (O ++ [x])) ∧ Below W.heap.size W w3 ∧ w5.heap.size ≤ w3.heap.size) (fun _ kv _ => mf.length - (intOf kv).toNat)
              case atStart => exact ⟨0, _, Tc, T.take j, by omega, rfl, hide (by rw [refsTo_zero, List.append_nil]), by rw [HTl], by rw [HTl]; exact hT9.1, ho9, by rw [HTl]; exact hT9.2, hM9, hb9W, hz9⟩
              case round =>
                obtain ⟨k, TB, Td, T', hk, rfl, hT', rfl, hoT, hoQ, hap3, hM3, hbr3, hzr3⟩ := hrel
                have lr3 := later hbr3
                have hT'l := hide (show T'.length ≤ j + k by rw [hT'.out, List.length_append, HTl]; have := refsTo_len mf k; omega)
                by_cases hlt2 : k < mf.length
                · obtain ⟨b2, o2, v, rfl, hv, C5⟩ := ValE.get (hFd wr) hlt2
                  have hki : (k : Int) < (mf.length : Int) := by omega
                  have hS := hide (refsTo_succ hv)
                  clear hv
                  by_cases hv2 : v.kind = 2
                  · have hTn := hide (show T' ++ [v.ref] = T.take j ++ refsTo mf (k + 1) by rw [hS.out, hT'.out, if_pos hv2, List.append_assoc])
                    have hTl := hide (show T'.length + 1 = (T' ++ [v.ref]).length by simp)
                    go_upto_region 19 with fail
                    refine wp_name ?_
                    intro w4 hw4
                    obtain ⟨B4, l4⟩ := box1 hw4
                    have hz4 : wr.heap.size ≤ w4.heap.size := by rw [← hw4]; simp
                    clear hw4
                    go_wp2_with (at_builtin; refine wpList_app1 rfl (.tmp 75) (.tmp 78) rfl IDE.enc idT v.ref rfl rfl rfl (hoT.later _) (by rfl) (by have := hT'l.out; omega) (by unfold maxLen; have := hT'l.out; omega) (Nat.le_trans (Nat.le_trans hzr3 hz4) (show Below w4.heap.size w4 _ from below_of).size) ?_; intro A5 c5 w6 ho5 hm5 hb5 hg5 hat5)
                    go_roundw
                    case rel =>
                      have hst : Step wr w6 (.slice TB T'.length Td) (.slice A5 (T'.length + 1) c5) := (Step.of_below (below_of (b := wr))).trans ⟨hg5, hat5⟩
                      have hq5 := hst.own hoQ hap3.symm
                      have hb56 : Below w5.heap.size wr w6 := (show Below wr.heap.size wr _ from below_of).mono hzr3 |>.trans hb5
                      exact ⟨k + 1, A5, c5, T' ++ [v.ref], by omega, by go_num, hTn, by rw [← hTl.out], by rw [← hTl.out]; exact ho5, hq5.1, by rw [← hTl.out]; exact hq5.2.symm, hM3.of_heap (hb56.block _ hgW), hbr3.trans (hb56.mono (Nat.le_of_lt hgW)), Nat.le_trans hzr3 hb56.size⟩
                    case measure => simp [intOf]; omega
                  · have hTn := hide (show T' = T.take j ++ refsTo mf (k + 1) by rw [hS.out, hT'.out, if_neg hv2, List.append_nil])
                    go_wp2_with fail
                    go_roundw
                    case rel => exact ⟨k + 1, TB, Td, T', by omega, by go_num, hTn, rfl, hoT.later _, hoQ.later _, hap3, hM3.later _, below_of, Nat.le_trans hzr3 (show Below wr.heap.size wr _ from below_of).size⟩
                    case measure => simp [intOf]; omega
                · have hk' : k = mf.length := by omega
                  subst hk'
                  have hw2 := hide (show ∀ y, y ∈ T' ↔ y ∈ T.take j ∨ y ∈ refsOf (NodeE.con ⟨m1, m2, mk, mc, mA, mp, mf⟩) from fun y => by
                    rw [hT'.out, List.mem_append, ← refsTo_all (n := NodeE.con ⟨m1, m2, mk, mc, mA, mp, mf⟩) hk2]; rfl)
                  go_wp2_with fail
                  go_roundw
                  case rel => exact ⟨O ++ [x], T', A9, TB, c9, Td, by rw [← hOl.out], rfl, hnd2.out, Hinv.out.visit hdr.out hfn.out hmem2.out hw2.out, by rw [← hOl.out]; have := hT'l.out; have := Hj.out; omega, by rw [← hOl.out]; exact hoQ.later _, hoT.later _, by rw [← hOl.out]; exact hap3, hM3.later _, below_of, Nat.le_trans hzr3 (show Below wr.heap.size wr _ from below_of).size⟩
                  case measure => have h1 := hOl.out; have h2 := hON.out; have h3 := hT'l.out; simp [lenV]; omega
      · have hT0 : T = [] := List.eq_nil_iff_length_eq_zero.2 (by omega)
        subst hT0
        have hz5' := hz5.out
        have hT0l : ¬ (0 : Int) < (([] : List IDE).length : Int) := by simp
        go_wp2_with (go_at_call 49; refine (sortOrder OA Oc O w5.heap.size wr hoO (by omega) hzr).mono ?_; rintro r w9 ⟨rfl, q, hp, hpw, ho9, hb9, hg9⟩; have hb9W : Below W.heap.size W w9 := hbr.trans (hb9.mono (by omega)); have l9 := later hb9W)
        have hpl := hide hp.length_eq
        have hq : ReachL (conL l) roots q := ⟨sortedI_of (sortedJ hpw) (hp.nodup_iff.2 hnd), fun y => (hp.mem_iff).trans (hinv.done y)⟩
        rw [← hpl.out] at ho9 ⊢
        exact ret_marked rfl (HD _) (results_tmp rfl _ _ _) ⟨q, OA, Oc, hq, rfl, (own_putObj ho9 (by omega)).mono (by have := hb.size; omega), putObj_below (hb.trans (hb9W.mono hb.size)) (by omega)⟩
end Go.Proofs.YtjegncmkebbdfaaGreatDoor
