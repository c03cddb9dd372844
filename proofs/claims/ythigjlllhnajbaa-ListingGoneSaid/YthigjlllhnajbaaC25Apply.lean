/-
  Contracts of the functions of this seat that each theorem names: what a call returns, and that it writes nothing that was there before. The conditions stand in each theorem.
-/
import Derived.Test.YthigjlllhnajbaaC25Back
import Derived.Test.YthigjlllhnajbaaC25Plain
namespace Go.Proofs.Ythigjlllhnajbaa
open Go.RowKit
attribute [local go_sem] Oper.semAt_some
theorem scionT : ElemT Try.prog 37 43 12 80 := ElemT.mk' (z := .agg #[.int .i64 0, .int .u64 0, .int .i64 0, .int .i64 0, .int .i64 0, .int .i64 0, .int .i64 0, .bool false, .bool false, .bool false, .int .i64 0, .int .i64 0]) Try.underlying37 (by kernel_rfl) rfl
theorem stubT : ElemT Try.prog 22 34 12 80 := ElemT.mk' (z := .agg #[.int .i64 0, .int .u64 0, .int .i64 0, .int .i64 0, .int .i64 0, .int .i64 0, .int .i64 0, .bool false, .bool false, .bool false, .int .i64 0, .int .i64 0]) Try.underlying22 (by kernel_rfl) rfl
theorem listedT : ElemT Try.prog 24 64 3 24 := ElemT.mk' (z := .agg #[.int .u64 0, .int .i64 0, .bool false]) Try.underlying24 (by kernel_rfl) rfl
theorem keyU : KeyL Try.prog 29 (fun n : Int => Value.int .u64 n) := keyL_int Try.underlying29
theorem zeroListed (w : World) : (zeroValue 64).run Try.prog w = .ok (.agg #[.int .u64 0, .int .i64 0, .bool false]) w := by kernel_rfl

set_option maxRecDepth 100000 in
set_option maxHeartbeats 4000000 in
theorem apply_any (sA : Option Addr) (sC : Nat) (xs : List ScionE) (L : ListV) (w : World) (hs : SlAt ScionE.cells 12 w sA xs) (hL : L.at_ w) (hsl : xs.length ≤ 100000000) :
    Calls Try.prog 16 #[.slice sA xs.length sC, L.v] w fun r w' => ∃ v1 v2, r = .returned (.tuple #[v1, v2]) ∧ Own ScionE.cells 12 43 w.heap.size w' v1 (keptL L.entries L.received L.sent xs) ∧
      Own ScionE.cells 12 43 w.heap.size w' v2 (remL L.entries L.received L.sent xs) ∧ Below w.heap.size w w' := by
  have Hs := hs.later
  have HL := hL.later
  have hmm := @run_makeMap Try.prog
  refine calls_marks Try.func16 rfl ?_
  simp only [Try.ntmps16, List.size_toArray, List.length_cons, List.length_nil, Nat.reduceAdd, Nat.reduceSub, Array.replicate_succ, Array.replicate_zero, List.push_toArray, List.append_toArray, List.nil_append, List.cons_append]
  go_wp2_with (go_at_call 36; refine (backListed_mk _ L.A L.entries.length L.c _ rfl).mono ?_; rintro e w' ⟨rfl, rfl⟩)
  clear hmm
  refine wp_name ?_
  intro w1 hw1
  have b0 : w1.heap[w.heap.size]? = some (.cells L.arr 26 (0, 0)) := (by rw [← hw1]; simp only [heap_alloc_if, World.size_alloc]; repeat (first | rw [if_pos trivial] | rw [if_neg (by omega)] | rw [if_pos (by omega)]); try rfl)
  have b1 : w1.heap[w.heap.size + 1]? = some (.map #[] 0) := (by rw [← hw1]; simp only [heap_alloc_if, World.size_alloc]; repeat (first | rw [if_pos trivial] | rw [if_neg (by omega)] | rw [if_pos (by omega)]); try rfl)
  have b2 : w1.heap[w.heap.size + 1 + 1]? = some (.cells #[.map (some (w.heap.size + 1))] 70 (0, 0)) := (by rw [← hw1]; simp only [heap_alloc_if, World.size_alloc]; repeat (first | rw [if_pos trivial] | rw [if_neg (by omega)] | rw [if_pos (by omega)]); try rfl)
  have b3 : w1.heap[w.heap.size + 1 + 1 + 1]? = some (.cells #[.slice L.A L.entries.length L.c] 24 (0, 0)) := (by rw [← hw1]; simp only [heap_alloc_if, World.size_alloc]; repeat (first | rw [if_pos trivial] | rw [if_neg (by omega)] | rw [if_pos (by omega)]); try rfl)
  have hz1 : w1.heap.size = w.heap.size + 1 + 1 + 1 + 1 := by rw [← hw1]; simp
  have hb1 : Below w.heap.size w w1 := by rw [← hw1]; exact (by repeat (first | with_reducible exact Below.refl _ _ | (with_reducible refine Below.drew ?_) | (with_reducible refine below_drewN ?_ _) | (with_reducible refine Below.alloc ?_ ?_ _; rotate_left; (first | omega | (simp <;> omega))) | (with_reducible refine Below.setCell ?_ ?_ _; rotate_left; (first | omega | (simp <;> omega)))))
  have hM1 : MapFn (fun n : Int => Value.int .u64 n) ListedE.v w1 (w.heap.size + 1) (fillB ListedE.number []) := ⟨#[], 0, b1, by simp, by simp [fillB], by simp⟩
  clear hw1 b1
  refine wp_rangeBoxed (gf := 60) (lb := #[.pointer (some ⟨w.heap.size + 1 + 1 + 1, 0, none⟩)]) rfl (enters_of Try.func60 (by kernel_rfl) rfl) (backListed_stops 8 (by omega) (w.heap.size + 1 + 1 + 1) 24 L.A L.c L.entries hL.sl w hL.s w1 hb1 b3) (by omega) (by omega) (Below.refl _ _) (fun _ => rfl)
    (fun pre W => MapFn (fun n : Int => Value.int .u64 n) ListedE.v W (w.heap.size + 1) (fillB ListedE.number pre) ∧ W.heap[w.heap.size]? = some (.cells L.arr 26 (0, 0)) ∧ W.heap[w.heap.size + 1 + 1]? = some (.cells #[.map (some (w.heap.size + 1))] 70 (0, 0)) ∧
      W.heap[w.heap.size + 1 + 1 + 1]? = some (.cells #[.slice L.A L.entries.length L.c] 24 (0, 0)) ∧ Below w.heap.size w W ∧ w1.heap.size ≤ W.heap.size)
    ?hI (fun _ _ h => h.2.2.2.2.2) ⟨hM1, b0, b2, b3, hb1, Nat.le_refl _⟩ (arr := fun x => x.2.arr) (T := 64) (tm := ?tm) ?hassign ?hbody ?hdone
  case hI =>
    refine ownFrom_of ?_
    rintro s W W' ⟨hM, h0, h2, h3, hb, hz⟩ hk hB hs
    exact ⟨hM.of_heap (by have := hM.lt; obtain ⟨o, ho⟩ : ∃ o, W.heap[w.heap.size + 1]? = some o := ⟨_, Array.getElem?_eq_getElem this⟩; rw [ho]; exact hk _ _ (by omega) ho), hk _ _ (by omega) h0, hk _ _ (by omega) h2, hk _ _ (by omega) h3, hb.trans (hB _ (by omega) (by omega)), by omega⟩
  case hassign =>
    intro l x W Bx K hB hK
    simp only [ListedE.enc2]
    gi_wp2
    rfl
  case hbody =>
    rintro l pre x Bx W h1 h2 h3 ⟨hM, h0, hv, hs', hb, hz⟩ hlen
    have X : Boxed W Bx x.2.arr 64 := boxed h3
    have V := boxed hv
    obtain ⟨U, hU1, hU2, hU3, hU4⟩ := run_store keyU Try.underlying70 hM
    have hF := hide (hU2 W x.2.number x.2)
    clear hU2
    gi_wp2
    exact ⟨keepsFrom_putAt (by omega), KpB.putAt (by omega) (by omega), by rw [fillB_snoc]; exact hF.out, by rw [putAt_heap (by omega)]; exact h0, by rw [putAt_heap (by omega)]; exact hv, by rw [putAt_heap (by omega)]; exact hs', putAt_below hb (by omega), by rw [putAt_size]; omega⟩
  case hdone =>
    rintro D ys W hD rfl ⟨hM, h0, hv, hs', hb, hz⟩ hK
    rw [fillB_all] at hM
    have B0 := boxed h0
    have V := boxed hv
    have HD := there_of hK
    have hlk : ∀ (u : World) [Later W u] (n : Int), (Instr.lookup 70 (.map (some (w.heap.size + 1))) (.int .u64 n) true).run Try.prog u = .ok (.tuple #[(findL L.entries n).elim (.agg #[.int .u64 0, .int .i64 0, .bool false]) ListedE.v, .bool (findL L.entries n).isSome]) u :=
      fun u i n => run_look_ok keyU Try.underlying70 zeroListed (hM.later u) n
    have lw : Later w W := ⟨hb⟩
    have hsl' : xs.length ≤ 9223372036854775807 := by omega
    have hDl := blk_lt hK
    clear hM h0 hv hs' hK b0 b2 b3 hM1 hb1 hL hs
    go_wp2_with fail
    go_loopw [9, 10, 12, 13, 14, 15, 28] (fun v1 v2 _ _ _ _ i wr => ∃ k : Nat, k ≤ xs.length ∧ i = .int .i64 k ∧ Own ScionE.cells 12 43 W.heap.size wr v1 (keptL L.entries L.received L.sent (xs.take k)) ∧
        Own ScionE.cells 12 43 W.heap.size wr v2 (remL L.entries L.received L.sent (xs.take k)) ∧ Apart v1 v2 ∧ Below W.heap.size W wr) (fun _ _ _ _ _ _ i _ => xs.length - (intOf i).toNat)
    case atStart => exact ⟨0, by omega, rfl, Own.nil, Own.nil, Apart.nil, Below.refl _ _⟩
    case round =>
      obtain ⟨k, hk, rfl, ho1, ho2, hap, hbr⟩ := hrel
      have lr := later hbr
      have hk1 : (keptL L.entries L.received L.sent (xs.take k)).length ≤ k := kept_len
      have hk2 : (remL L.entries L.received L.sent (xs.take k)).length ≤ k := rem_len
      by_cases hlt : k < xs.length
      · obtain ⟨b, off, x, rfl, hbk, hx, hcells⟩ := (Hs wr).at_ hlt
        obtain ⟨f0, f1, f2, f3, f4, f5, f6, f7, f8, f9, f10, f11⟩ := ScionE.facts hcells
        have K1 := hide (kept_take (l := L.entries) (r := L.received) (s := L.sent) hx)
        have K2 := hide (rem_take (l := L.entries) (r := L.received) (s := L.sent) hx)
        clear hcells hx
        cases hf : findL L.entries x.number with
        | none =>
          by_cases h1 : x.out ≤ L.received
          · by_cases h2 : x.inn ≤ L.sent
            · have hk' := hide (show keep1 L.entries L.received L.sent x = none by simp [keep1, hf, settledB, h1, h2])
              go_upto_region 12 with fail
              refine wp_name ?_
              intro wx hwx
              have lx := later_name' hwx (inferInstance : Later wr _)
              have Bx : Boxed wx wr.heap.size x.arr 43 := boxed (by rw [← hwx]; simp only [heap_alloc_if, World.size_alloc]; repeat (first | rw [if_pos trivial] | rw [if_neg (by omega)] | rw [if_pos (by omega)]); try rfl)
              clear hwx
              go_wp2_with (at_builtin; refine wpList_app1 rfl (.tmp 56) (.tmp 58) rfl ScionE.enc scionT x rfl rfl rfl (ho2.later _) (by rfl) (by omega) (by unfold maxLen; omega) (below_of (b := W)).size ?_; intro A' c' w2 hq hm hbq hgq hat)
              go_roundw
              case rel =>
                have hp := Apart.grown hap.symm (ho1.later _) hgq hat
                exact ⟨k + 1, by omega, by go_num, by rw [K1.out, hk'.out, Option.toList_none, List.append_nil]; exact hp.2, by rw [K2.out, hk'.out]; exact hq, hp.1.symm, (below_of (b := W)).trans hbq⟩
              case measure => simp [intOf]; omega
            · have hk' := hide (show keep1 L.entries L.received L.sent x = some x by simp [keep1, hf, settledB, h1, h2])
              go_upto_region 16 with fail
              refine wp_name ?_
              intro wx hwx
              have lx := later_name' hwx (inferInstance : Later wr _)
              have Bx : Boxed wx wr.heap.size (x).arr 43 := boxed (by rw [← hwx]; simp only [heap_alloc_if, World.size_alloc]; repeat (first | rw [if_pos trivial] | rw [if_neg (by omega)] | rw [if_pos (by omega)]); try rfl)
              clear hwx
              go_wp2_with (at_builtin; refine wpList_app1 rfl (.tmp 74) (.tmp 76) rfl ScionE.enc scionT (x) rfl rfl rfl (ho1.later _) (by rfl) (by omega) (by unfold maxLen; omega) (below_of (b := W)).size ?_; intro A' c' w2 hq hm hbq hgq hat)
              all_goals
                go_roundw
                case rel =>
                  have hp := Apart.grown hap (ho2.later _) hgq hat
                  exact ⟨k + 1, by omega, by go_num, by rw [K1.out, hk'.out, Option.toList_some]; exact hq, by rw [K2.out, hk'.out]; simp only [Option.isNone_some, Bool.false_eq_true, if_false, List.append_nil]; exact hp.2, hp.1, (below_of (b := W)).trans hbq⟩
                case measure => simp [intOf]; omega
          · have hk' := hide (show keep1 L.entries L.received L.sent x = some x by simp [keep1, hf, settledB, h1])
            go_upto_region 16 with fail
            refine wp_name ?_
            intro wx hwx
            have lx := later_name' hwx (inferInstance : Later wr _)
            have Bx : Boxed wx wr.heap.size (x).arr 43 := boxed (by rw [← hwx]; simp only [heap_alloc_if, World.size_alloc]; repeat (first | rw [if_pos trivial] | rw [if_neg (by omega)] | rw [if_pos (by omega)]); try rfl)
            clear hwx
            go_wp2_with (at_builtin; refine wpList_app1 rfl (.tmp 74) (.tmp 76) rfl ScionE.enc scionT (x) rfl rfl rfl (ho1.later _) (by rfl) (by omega) (by unfold maxLen; omega) (below_of (b := W)).size ?_; intro A' c' w2 hq hm hbq hgq hat)
            all_goals
              go_roundw
              case rel =>
                have hp := Apart.grown hap (ho2.later _) hgq hat
                exact ⟨k + 1, by omega, by go_num, by rw [K1.out, hk'.out, Option.toList_some]; exact hq, by rw [K2.out, hk'.out]; simp only [Option.isNone_some, Bool.false_eq_true, if_false, List.append_nil]; exact hp.2, hp.1, (below_of (b := W)).trans hbq⟩
              case measure => simp [intOf]; omega
        | some e =>
          by_cases h1 : x.out ≤ L.received
          · by_cases h2 : x.inn ≤ L.sent
            · skip
              cases hew : e.weak
              · have hk' := hide (show keep1 L.entries L.received L.sent x = some { x with distance := e.distance, weak := false } by simp [keep1, hf, ScionE.upd, hew])
                go_upto_region 16 with fail
                refine wp_name ?_
                intro wx hwx
                have lx := later_name' hwx (inferInstance : Later wr _)
                have Bx : Boxed wx wr.heap.size ({ x with distance := e.distance, weak := false }).arr 43 := boxed (by rw [← hwx]; simp only [heap_alloc_if, World.size_alloc]; repeat (first | rw [if_pos trivial] | rw [if_neg (by omega)] | rw [if_pos (by omega)]); try rfl)
                clear hwx
                go_wp2_with (at_builtin; refine wpList_app1 rfl (.tmp 74) (.tmp 76) rfl ScionE.enc scionT ({ x with distance := e.distance, weak := false }) rfl rfl rfl (ho1.later _) (by rfl) (by omega) (by unfold maxLen; omega) (below_of (b := W)).size ?_; intro A' c' w2 hq hm hbq hgq hat)
                all_goals
                  go_roundw
                  case rel =>
                    have hp := Apart.grown hap (ho2.later _) hgq hat
                    exact ⟨k + 1, by omega, by go_num, by rw [K1.out, hk'.out, Option.toList_some]; exact hq, by rw [K2.out, hk'.out]; simp only [Option.isNone_some, Bool.false_eq_true, if_false, List.append_nil]; exact hp.2, hp.1, (below_of (b := W)).trans hbq⟩
                  case measure => simp [intOf]; omega
              · cases hxw : x.weak
                · have hk' := hide (show keep1 L.entries L.received L.sent x = some { x with distance := e.distance, weak := true } by simp [keep1, hf, ScionE.upd, settledB, hew, hxw, h1, h2])
                  go_upto_region 16 with fail
                  refine wp_name ?_
                  intro wx hwx
                  have lx := later_name' hwx (inferInstance : Later wr _)
                  have Bx : Boxed wx wr.heap.size ({ x with distance := e.distance, weak := true }).arr 43 := boxed (by rw [← hwx]; simp only [heap_alloc_if, World.size_alloc]; repeat (first | rw [if_pos trivial] | rw [if_neg (by omega)] | rw [if_pos (by omega)]); try rfl)
                  clear hwx
                  go_wp2_with (at_builtin; refine wpList_app1 rfl (.tmp 74) (.tmp 76) rfl ScionE.enc scionT ({ x with distance := e.distance, weak := true }) rfl rfl rfl (ho1.later _) (by rfl) (by omega) (by unfold maxLen; omega) (below_of (b := W)).size ?_; intro A' c' w2 hq hm hbq hgq hat)
                  all_goals
                    go_roundw
                    case rel =>
                      have hp := Apart.grown hap (ho2.later _) hgq hat
                      exact ⟨k + 1, by omega, by go_num, by rw [K1.out, hk'.out, Option.toList_some]; exact hq, by rw [K2.out, hk'.out]; simp only [Option.isNone_some, Bool.false_eq_true, if_false, List.append_nil]; exact hp.2, hp.1, (below_of (b := W)).trans hbq⟩
                    case measure => simp [intOf]; omega
                · have hk' := hide (show keep1 L.entries L.received L.sent x = some { x with distance := e.distance, weak := true } by simp [keep1, hf, ScionE.upd, hew, hxw])
                  go_upto_region 16 with fail
                  refine wp_name ?_
                  intro wx hwx
                  have lx := later_name' hwx (inferInstance : Later wr _)
                  have Bx : Boxed wx wr.heap.size ({ x with distance := e.distance, weak := true }).arr 43 := boxed (by rw [← hwx]; simp only [heap_alloc_if, World.size_alloc]; repeat (first | rw [if_pos trivial] | rw [if_neg (by omega)] | rw [if_pos (by omega)]); try rfl)
                  clear hwx
                  go_wp2_with (at_builtin; refine wpList_app1 rfl (.tmp 74) (.tmp 76) rfl ScionE.enc scionT ({ x with distance := e.distance, weak := true }) rfl rfl rfl (ho1.later _) (by rfl) (by omega) (by unfold maxLen; omega) (below_of (b := W)).size ?_; intro A' c' w2 hq hm hbq hgq hat)
                  all_goals
                    go_roundw
                    case rel =>
                      have hp := Apart.grown hap (ho2.later _) hgq hat
                      exact ⟨k + 1, by omega, by go_num, by rw [K1.out, hk'.out, Option.toList_some]; exact hq, by rw [K2.out, hk'.out]; simp only [Option.isNone_some, Bool.false_eq_true, if_false, List.append_nil]; exact hp.2, hp.1, (below_of (b := W)).trans hbq⟩
                    case measure => simp [intOf]; omega
            · skip
              cases hew : e.weak
              · have hk' := hide (show keep1 L.entries L.received L.sent x = some { x with distance := e.distance, weak := false } by simp [keep1, hf, ScionE.upd, hew])
                go_upto_region 16 with fail
                refine wp_name ?_
                intro wx hwx
                have lx := later_name' hwx (inferInstance : Later wr _)
                have Bx : Boxed wx wr.heap.size ({ x with distance := e.distance, weak := false }).arr 43 := boxed (by rw [← hwx]; simp only [heap_alloc_if, World.size_alloc]; repeat (first | rw [if_pos trivial] | rw [if_neg (by omega)] | rw [if_pos (by omega)]); try rfl)
                clear hwx
                go_wp2_with (at_builtin; refine wpList_app1 rfl (.tmp 74) (.tmp 76) rfl ScionE.enc scionT ({ x with distance := e.distance, weak := false }) rfl rfl rfl (ho1.later _) (by rfl) (by omega) (by unfold maxLen; omega) (below_of (b := W)).size ?_; intro A' c' w2 hq hm hbq hgq hat)
                all_goals
                  go_roundw
                  case rel =>
                    have hp := Apart.grown hap (ho2.later _) hgq hat
                    exact ⟨k + 1, by omega, by go_num, by rw [K1.out, hk'.out, Option.toList_some]; exact hq, by rw [K2.out, hk'.out]; simp only [Option.isNone_some, Bool.false_eq_true, if_false, List.append_nil]; exact hp.2, hp.1, (below_of (b := W)).trans hbq⟩
                  case measure => simp [intOf]; omega
              · cases hxw : x.weak
                · have hk' := hide (show keep1 L.entries L.received L.sent x = some { x with distance := e.distance, weak := false } by simp [keep1, hf, ScionE.upd, settledB, hew, hxw, h1, h2])
                  go_upto_region 16 with fail
                  refine wp_name ?_
                  intro wx hwx
                  have lx := later_name' hwx (inferInstance : Later wr _)
                  have Bx : Boxed wx wr.heap.size ({ x with distance := e.distance, weak := false }).arr 43 := boxed (by rw [← hwx]; simp only [heap_alloc_if, World.size_alloc]; repeat (first | rw [if_pos trivial] | rw [if_neg (by omega)] | rw [if_pos (by omega)]); try rfl)
                  clear hwx
                  go_wp2_with (at_builtin; refine wpList_app1 rfl (.tmp 74) (.tmp 76) rfl ScionE.enc scionT ({ x with distance := e.distance, weak := false }) rfl rfl rfl (ho1.later _) (by rfl) (by omega) (by unfold maxLen; omega) (below_of (b := W)).size ?_; intro A' c' w2 hq hm hbq hgq hat)
                  all_goals
                    go_roundw
                    case rel =>
                      have hp := Apart.grown hap (ho2.later _) hgq hat
                      exact ⟨k + 1, by omega, by go_num, by rw [K1.out, hk'.out, Option.toList_some]; exact hq, by rw [K2.out, hk'.out]; simp only [Option.isNone_some, Bool.false_eq_true, if_false, List.append_nil]; exact hp.2, hp.1, (below_of (b := W)).trans hbq⟩
                    case measure => simp [intOf]; omega
                · have hk' := hide (show keep1 L.entries L.received L.sent x = some { x with distance := e.distance, weak := true } by simp [keep1, hf, ScionE.upd, hew, hxw])
                  go_upto_region 16 with fail
                  refine wp_name ?_
                  intro wx hwx
                  have lx := later_name' hwx (inferInstance : Later wr _)
                  have Bx : Boxed wx wr.heap.size ({ x with distance := e.distance, weak := true }).arr 43 := boxed (by rw [← hwx]; simp only [heap_alloc_if, World.size_alloc]; repeat (first | rw [if_pos trivial] | rw [if_neg (by omega)] | rw [if_pos (by omega)]); try rfl)
                  clear hwx
                  go_wp2_with (at_builtin; refine wpList_app1 rfl (.tmp 74) (.tmp 76) rfl ScionE.enc scionT ({ x with distance := e.distance, weak := true }) rfl rfl rfl (ho1.later _) (by rfl) (by omega) (by unfold maxLen; omega) (below_of (b := W)).size ?_; intro A' c' w2 hq hm hbq hgq hat)
                  all_goals
                    go_roundw
                    case rel =>
                      have hp := Apart.grown hap (ho2.later _) hgq hat
                      exact ⟨k + 1, by omega, by go_num, by rw [K1.out, hk'.out, Option.toList_some]; exact hq, by rw [K2.out, hk'.out]; simp only [Option.isNone_some, Bool.false_eq_true, if_false, List.append_nil]; exact hp.2, hp.1, (below_of (b := W)).trans hbq⟩
                    case measure => simp [intOf]; omega
          · skip
            cases hew : e.weak
            · have hk' := hide (show keep1 L.entries L.received L.sent x = some { x with distance := e.distance, weak := false } by simp [keep1, hf, ScionE.upd, hew])
              go_upto_region 16 with fail
              refine wp_name ?_
              intro wx hwx
              have lx := later_name' hwx (inferInstance : Later wr _)
              have Bx : Boxed wx wr.heap.size ({ x with distance := e.distance, weak := false }).arr 43 := boxed (by rw [← hwx]; simp only [heap_alloc_if, World.size_alloc]; repeat (first | rw [if_pos trivial] | rw [if_neg (by omega)] | rw [if_pos (by omega)]); try rfl)
              clear hwx
              go_wp2_with (at_builtin; refine wpList_app1 rfl (.tmp 74) (.tmp 76) rfl ScionE.enc scionT ({ x with distance := e.distance, weak := false }) rfl rfl rfl (ho1.later _) (by rfl) (by omega) (by unfold maxLen; omega) (below_of (b := W)).size ?_; intro A' c' w2 hq hm hbq hgq hat)
              all_goals
                go_roundw
                case rel =>
                  have hp := Apart.grown hap (ho2.later _) hgq hat
                  exact ⟨k + 1, by omega, by go_num, by rw [K1.out, hk'.out, Option.toList_some]; exact hq, by rw [K2.out, hk'.out]; simp only [Option.isNone_some, Bool.false_eq_true, if_false, List.append_nil]; exact hp.2, hp.1, (below_of (b := W)).trans hbq⟩
                case measure => simp [intOf]; omega
            · cases hxw : x.weak
              · have hk' := hide (show keep1 L.entries L.received L.sent x = some { x with distance := e.distance, weak := false } by simp [keep1, hf, ScionE.upd, settledB, hew, hxw, h1])
                go_upto_region 16 with fail
                refine wp_name ?_
                intro wx hwx
                have lx := later_name' hwx (inferInstance : Later wr _)
                have Bx : Boxed wx wr.heap.size ({ x with distance := e.distance, weak := false }).arr 43 := boxed (by rw [← hwx]; simp only [heap_alloc_if, World.size_alloc]; repeat (first | rw [if_pos trivial] | rw [if_neg (by omega)] | rw [if_pos (by omega)]); try rfl)
                clear hwx
                go_wp2_with (at_builtin; refine wpList_app1 rfl (.tmp 74) (.tmp 76) rfl ScionE.enc scionT ({ x with distance := e.distance, weak := false }) rfl rfl rfl (ho1.later _) (by rfl) (by omega) (by unfold maxLen; omega) (below_of (b := W)).size ?_; intro A' c' w2 hq hm hbq hgq hat)
                all_goals
                  go_roundw
                  case rel =>
                    have hp := Apart.grown hap (ho2.later _) hgq hat
                    exact ⟨k + 1, by omega, by go_num, by rw [K1.out, hk'.out, Option.toList_some]; exact hq, by rw [K2.out, hk'.out]; simp only [Option.isNone_some, Bool.false_eq_true, if_false, List.append_nil]; exact hp.2, hp.1, (below_of (b := W)).trans hbq⟩
                  case measure => simp [intOf]; omega
              · have hk' := hide (show keep1 L.entries L.received L.sent x = some { x with distance := e.distance, weak := true } by simp [keep1, hf, ScionE.upd, hew, hxw])
                go_upto_region 16 with fail
                refine wp_name ?_
                intro wx hwx
                have lx := later_name' hwx (inferInstance : Later wr _)
                have Bx : Boxed wx wr.heap.size ({ x with distance := e.distance, weak := true }).arr 43 := boxed (by rw [← hwx]; simp only [heap_alloc_if, World.size_alloc]; repeat (first | rw [if_pos trivial] | rw [if_neg (by omega)] | rw [if_pos (by omega)]); try rfl)
                clear hwx
                go_wp2_with (at_builtin; refine wpList_app1 rfl (.tmp 74) (.tmp 76) rfl ScionE.enc scionT ({ x with distance := e.distance, weak := true }) rfl rfl rfl (ho1.later _) (by rfl) (by omega) (by unfold maxLen; omega) (below_of (b := W)).size ?_; intro A' c' w2 hq hm hbq hgq hat)
                all_goals
                  go_roundw
                  case rel =>
                    have hp := Apart.grown hap (ho2.later _) hgq hat
                    exact ⟨k + 1, by omega, by go_num, by rw [K1.out, hk'.out, Option.toList_some]; exact hq, by rw [K2.out, hk'.out]; simp only [Option.isNone_some, Bool.false_eq_true, if_false, List.append_nil]; exact hp.2, hp.1, (below_of (b := W)).trans hbq⟩
                  case measure => simp [intOf]; omega
      · have hk' : k = xs.length := by omega
        rw [hk', List.take_length] at ho1 ho2
        clear hk1 hk2 hk'
        go_wp2_with fail
        exact ret_marked rfl (HD _) (results_tmp2 rfl _ _ _) ⟨_, _, rfl, (own_putObj ho1 hDl).mono hb.size, (own_putObj ho2 hDl).mono hb.size, putObj_below (hb.trans (hbr.mono hb.size)) (by omega)⟩
end Go.Proofs.Ythigjlllhnajbaa
