/-
  Contracts of the functions of this seat that each theorem names: what a call returns, and that it writes nothing that was there before. The conditions stand in each theorem.
-/
import Derived.Test.YthigjlllhnajbaaC25Walk1
import Derived.Test.YthigjlllhnajbaaGrpA
namespace Go.Proofs.Ythigjlllhnajbaa
open Go.RowKit
attribute [local simp] heap_drew
theorem scionT2 : ElemT Try.prog 37 43 12 80 := ElemT.mk' (z := .agg #[.int .i64 0, .int .u64 0, .int .i64 0, .int .i64 0, .int .i64 0, .int .i64 0, .int .i64 0, .bool false, .bool false, .bool false, .int .i64 0, .int .i64 0]) Try.underlying37 (by kernel_rfl) rfl
set_option maxRecDepth 100000 in
set_option maxHeartbeats 4000000 in
theorem refApply_any' (sA : Option Addr) (sC : Nat) (xs : List ScionE) (R S C : Int) (A : Option Addr) (c : Nat) (es : List ListedE) (w : World) (hs : SlAt ScionE.cells 12 w sA xs) (hL : SlAt ListedE.cells 3 w A es) (hel : es.length ≤ 1000000000000000) (hsl : xs.length ≤ 100000000) :
    Calls Try.prog 17 #[.slice sA xs.length sC, .agg #[.int .i64 R, .int .i64 S, .int .i64 C, .slice A es.length c]] w fun r w' => ∃ v1 v2, r = .returned (.tuple #[v1, v2]) ∧ Own ScionE.cells 12 43 w.heap.size w' v1 (keptL es C S xs) ∧
      Own ScionE.cells 12 43 w.heap.size w' v2 (remL es C S xs) ∧ Below w.heap.size w w' := by
  have Hs := hs.later
  have HL : ∀ u [Later w u], SlAt ListedE.cells 3 u A es := fun u i => hL.below i.below
  have hsl' : xs.length ≤ 9223372036854775807 := by omega
  have hel' : es.length ≤ 9223372036854775807 := by omega
  go_enter Try.func17, Try.ntmps17
  go_upto_region 1 with fail
  refine wp_name ?_
  intro w0 hw0
  obtain ⟨B0, l0⟩ := box1 hw0
  clear hw0
  go_upto_region 2 with fail
  refine wp_name ?_
  intro w1 hw1
  have hz1 : w1.heap.size = w0.heap.size + 1 + 1 := by rw [← hw1]; simp
  have l1 := later_name' hw1 (inferInstance : Later w0 _)
  have hE1 : Own ScionE.cells 12 43 w0.heap.size w1 (.slice (some ⟨w0.heap.size, 0, none⟩) 0 0) [] := Own.empty_blk (Nat.le_refl _) (by rw [← hw1]; simp only [heap_alloc_if, World.size_alloc]; repeat (first | rw [if_pos trivial] | rw [if_neg (by omega)] | rw [if_pos (by omega)]); try rfl)
  have hE2 : Own ScionE.cells 12 43 w0.heap.size w1 (.slice (some ⟨w0.heap.size + 1, 0, none⟩) 0 0) [] := Own.empty_blk (by omega) (by rw [← hw1]; simp only [heap_alloc_if, World.size_alloc]; repeat (first | rw [if_pos trivial] | rw [if_neg (by omega)] | rw [if_pos (by omega)]); try rfl)
  clear hw1
  have hbase : w0.heap.size ≤ w1.heap.size := by omega
  have hbase2 : w.heap.size ≤ w0.heap.size := (l0 w).below.size
  go_wp2_with fail
  go_loopw [6, 7, 8, 9, 10, 11] (fun v1 v2 i _ _ _ wr => ∃ k : Nat, k ≤ xs.length ∧ i = .int .i64 k ∧ Own ScionE.cells 12 43 w0.heap.size wr v1 (keptL es C S (xs.take k)) ∧
        Own ScionE.cells 12 43 w0.heap.size wr v2 (remL es C S (xs.take k)) ∧ Apart v1 v2 ∧ Below w0.heap.size w0 wr) (fun _ _ i _ _ _ _ => xs.length - (intOf i).toNat)
  case atStart => exact ⟨0, by omega, rfl, hE1, hE2, (fun g h1 h2 => by simp [Value.ownBlock] at h1 h2; omega), below_of⟩
  case round =>
    obtain ⟨k, hk, rfl, ho1, ho2, hap, hbr⟩ := hrel
    have lr := later hbr
    have hk1 : (keptL es C S (xs.take k)).length ≤ k := kept_len
    have hk2 : (remL es C S (xs.take k)).length ≤ k := rem_len
    by_cases hlt : k < xs.length
    · obtain ⟨g, o, x, rfl, hx, C1⟩ := ScionE.get (Hs wr) hlt
      have K1 := hide (kept_take (l := es) (r := C) (s := S) hx)
      have K2 := hide (rem_take (l := es) (r := C) (s := S) hx)
      clear hx
      go_upto_region 6 with fail
      refine wp_name ?_
      intro w5 hw5
      have l5 := later_name' hw5 (inferInstance : Later wr _)
      have Bx : Boxed w5 wr.heap.size x.arr 43 := boxed (by rw [← hw5]; simp only [heap_alloc_if, World.size_alloc]; repeat (first | rw [if_pos trivial] | rw [if_neg (by omega)] | rw [if_pos (by omega)]); try rfl)
      clear hw5
      have HE : ∀ u [Later w u], Calls Try.prog 19 #[.agg #[.int .i64 R, .int .i64 S, .int .i64 C, .slice A es.length c], .int .u64 x.number] u fun r w' => r = .returned (.int .i64 (entryI es x.number)) ∧ Below u.heap.size u w' := fun u i => entry_any ⟨R, S, C, A, c, es⟩ x.number u ⟨HL u, hel⟩
      rcases entryI_find es x.number with ⟨he, hf⟩ | ⟨j, e, he, hj, hf⟩
      · simp only [he] at HE
        by_cases h1 : x.out ≤ C
        · by_cases h2 : x.inn ≤ S
          · have hk' := hide (show keep1 es C S x = none by simp [keep1, hf, settledB, h1, h2])
            clear he hf
            (try replace h1 := Int.not_le.1 h1)
            (try replace h2 := Int.not_le.1 h2)
            go_wp2_with (go_at_call 19; refine (HE _).mono ?_)
            intro r w6 h6
            (first | (have hb6 := h6.2; have he6 := h6.1; clear h6; subst he6) | (intro hb6; subst h6))
            have l6 := later hb6
            go_upto_region 10 with fail
            go_wp2_with (at_builtin; refine wpList_app1 rfl (.tmp 43) (.tmp 45) rfl ScionE.enc scionT2 x rfl rfl rfl (ho2.later _) (by rfl) (by omega) (by unfold maxLen; omega) (below_of (b := w0)).size ?_; intro A' c' w2 hq hm hbq hgq hat)
            go_roundw
            case rel =>
              have hp := Apart.grown hap.symm (ho1.later _) hgq hat
              exact ⟨k + 1, by omega, by go_num, by rw [K1.out, hk'.out, Option.toList_none, List.append_nil]; exact hp.2, by rw [K2.out, hk'.out]; exact hq, hp.1.symm, (below_of (b := w0)).trans hbq⟩
            case measure => simp [intOf]; omega
          · have hk' := hide (show keep1 es C S x = some x by simp [keep1, hf, settledB, h1, h2])
            clear he hf
            (try replace h1 := Int.not_le.1 h1)
            (try replace h2 := Int.not_le.1 h2)
            go_wp2_with (go_at_call 19; refine (HE _).mono ?_)
            intro r w6 h6
            (first | (have hb6 := h6.2; have he6 := h6.1; clear h6; subst he6) | (intro hb6; subst h6))
            have l6 := later hb6
            go_upto_region 11 with fail
            go_wp2_with (at_builtin; refine wpList_app1 rfl (.tmp 47) (.tmp 49) rfl ScionE.enc scionT2 (x) rfl rfl rfl (ho1.later _) (by rfl) (by omega) (by unfold maxLen; omega) (below_of (b := w0)).size ?_; intro A' c' w2 hq hm hbq hgq hat)
            go_roundw
            case rel =>
              have hp := Apart.grown hap (ho2.later _) hgq hat
              exact ⟨k + 1, by omega, by go_num, by rw [K1.out, hk'.out, Option.toList_some]; exact hq, by rw [K2.out, hk'.out]; simp only [Option.isNone_some, Bool.false_eq_true, if_false, List.append_nil]; exact hp.2, hp.1, (below_of (b := w0)).trans hbq⟩
            case measure => simp [intOf]; omega
        · have hk' := hide (show keep1 es C S x = some x by simp [keep1, hf, settledB, h1])
          clear he hf
          (try replace h1 := Int.not_le.1 h1)
          (try replace h2 := Int.not_le.1 h2)
          go_wp2_with (go_at_call 19; refine (HE _).mono ?_)
          intro r w6 h6
          (first | (have hb6 := h6.2; have he6 := h6.1; clear h6; subst he6) | (intro hb6; subst h6))
          have l6 := later hb6
          go_upto_region 11 with fail
          go_wp2_with (at_builtin; refine wpList_app1 rfl (.tmp 47) (.tmp 49) rfl ScionE.enc scionT2 (x) rfl rfl rfl (ho1.later _) (by rfl) (by omega) (by unfold maxLen; omega) (below_of (b := w0)).size ?_; intro A' c' w2 hq hm hbq hgq hat)
          go_roundw
          case rel =>
            have hp := Apart.grown hap (ho2.later _) hgq hat
            exact ⟨k + 1, by omega, by go_num, by rw [K1.out, hk'.out, Option.toList_some]; exact hq, by rw [K2.out, hk'.out]; simp only [Option.isNone_some, Bool.false_eq_true, if_false, List.append_nil]; exact hp.2, hp.1, (below_of (b := w0)).trans hbq⟩
          case measure => simp [intOf]; omega
      · simp only [he] at HE
        have hjl : j < es.length := (List.getElem?_eq_some_iff.1 hj).1
        have hjn : decide ((j : Int) < 0) = false := by simp
        have hjm : (j : Int) < (es.length : Int) := by omega
        obtain ⟨g2, o2, e', rfl, he', C2⟩ := ListedE.get (HL w) hjl
        rw [hj] at he'; injection he' with he'
        subst he'
        clear hj he
        cases hew : e.weak
        · have hk' := hide (show keep1 es C S x = some { x with distance := e.distance, weak := false } by simp [keep1, hf, ScionE.upd, hew])
          clear hf
          by_cases h1 : x.out ≤ C
          · by_cases h2 : x.inn ≤ S
            · skip
              (try replace h1 := Int.not_le.1 h1)
              (try replace h2 := Int.not_le.1 h2)
              go_wp2_with (go_at_call 19; refine (HE _).mono ?_)
              intro r w6 h6
              (first | (have hb6 := h6.2; have he6 := h6.1; clear h6; subst he6) | (intro hb6; subst h6))
              have l6 := later hb6
              go_upto_region 13 with fail
              refine wp_name ?_
              intro w7 hw7
              have B7 := boxed_set Bx hw7
              have l7 := later_put (W := wr) (p := ⟨wr.heap.size, 6, none⟩) (Nat.le_refl _) hw7
              clear hw7
              go_upto_region 17 with fail
              refine wp_name ?_
              intro w8 hw8
              have B8 := boxed_set B7 hw8
              have l8 := later_put (W := wr) (p := ⟨wr.heap.size, 8, none⟩) (Nat.le_refl _) hw8
              clear hw8
              go_upto_region 17 with fail
              go_wp2_with (at_builtin; refine wpList_app1 rfl (.tmp 68) (.tmp 70) rfl ScionE.enc scionT2 ({ x with distance := e.distance, weak := false }) rfl rfl rfl (ho1.later _) (by rfl) (by omega) (by unfold maxLen; omega) (below_of (b := w0)).size ?_; intro A' c' w2 hq hm hbq hgq hat)
              go_roundw
              case rel =>
                have hp := Apart.grown hap (ho2.later _) hgq hat
                exact ⟨k + 1, by omega, by go_num, by rw [K1.out, hk'.out, Option.toList_some]; exact hq, by rw [K2.out, hk'.out]; simp only [Option.isNone_some, Bool.false_eq_true, if_false, List.append_nil]; exact hp.2, hp.1, (below_of (b := w0)).trans hbq⟩
              case measure => simp [intOf]; omega
            · skip
              (try replace h1 := Int.not_le.1 h1)
              (try replace h2 := Int.not_le.1 h2)
              go_wp2_with (go_at_call 19; refine (HE _).mono ?_)
              intro r w6 h6
              (first | (have hb6 := h6.2; have he6 := h6.1; clear h6; subst he6) | (intro hb6; subst h6))
              have l6 := later hb6
              go_upto_region 13 with fail
              refine wp_name ?_
              intro w7 hw7
              have B7 := boxed_set Bx hw7
              have l7 := later_put (W := wr) (p := ⟨wr.heap.size, 6, none⟩) (Nat.le_refl _) hw7
              clear hw7
              go_upto_region 17 with fail
              refine wp_name ?_
              intro w8 hw8
              have B8 := boxed_set B7 hw8
              have l8 := later_put (W := wr) (p := ⟨wr.heap.size, 8, none⟩) (Nat.le_refl _) hw8
              clear hw8
              go_upto_region 17 with fail
              go_wp2_with (at_builtin; refine wpList_app1 rfl (.tmp 68) (.tmp 70) rfl ScionE.enc scionT2 ({ x with distance := e.distance, weak := false }) rfl rfl rfl (ho1.later _) (by rfl) (by omega) (by unfold maxLen; omega) (below_of (b := w0)).size ?_; intro A' c' w2 hq hm hbq hgq hat)
              go_roundw
              case rel =>
                have hp := Apart.grown hap (ho2.later _) hgq hat
                exact ⟨k + 1, by omega, by go_num, by rw [K1.out, hk'.out, Option.toList_some]; exact hq, by rw [K2.out, hk'.out]; simp only [Option.isNone_some, Bool.false_eq_true, if_false, List.append_nil]; exact hp.2, hp.1, (below_of (b := w0)).trans hbq⟩
              case measure => simp [intOf]; omega
          · skip
            (try replace h1 := Int.not_le.1 h1)
            (try replace h2 := Int.not_le.1 h2)
            go_wp2_with (go_at_call 19; refine (HE _).mono ?_)
            intro r w6 h6
            (first | (have hb6 := h6.2; have he6 := h6.1; clear h6; subst he6) | (intro hb6; subst h6))
            have l6 := later hb6
            go_upto_region 13 with fail
            refine wp_name ?_
            intro w7 hw7
            have B7 := boxed_set Bx hw7
            have l7 := later_put (W := wr) (p := ⟨wr.heap.size, 6, none⟩) (Nat.le_refl _) hw7
            clear hw7
            go_upto_region 17 with fail
            refine wp_name ?_
            intro w8 hw8
            have B8 := boxed_set B7 hw8
            have l8 := later_put (W := wr) (p := ⟨wr.heap.size, 8, none⟩) (Nat.le_refl _) hw8
            clear hw8
            go_upto_region 17 with fail
            go_wp2_with (at_builtin; refine wpList_app1 rfl (.tmp 68) (.tmp 70) rfl ScionE.enc scionT2 ({ x with distance := e.distance, weak := false }) rfl rfl rfl (ho1.later _) (by rfl) (by omega) (by unfold maxLen; omega) (below_of (b := w0)).size ?_; intro A' c' w2 hq hm hbq hgq hat)
            go_roundw
            case rel =>
              have hp := Apart.grown hap (ho2.later _) hgq hat
              exact ⟨k + 1, by omega, by go_num, by rw [K1.out, hk'.out, Option.toList_some]; exact hq, by rw [K2.out, hk'.out]; simp only [Option.isNone_some, Bool.false_eq_true, if_false, List.append_nil]; exact hp.2, hp.1, (below_of (b := w0)).trans hbq⟩
            case measure => simp [intOf]; omega
        · by_cases h1 : x.out ≤ C
          · by_cases h2 : x.inn ≤ S
            · have hk' := hide (show keep1 es C S x = some { x with distance := e.distance, weak := true } by simp [keep1, hf, ScionE.upd, settledB, hew, h1, h2])
              clear hf
              (try replace h1 := Int.not_le.1 h1)
              (try replace h2 := Int.not_le.1 h2)
              go_wp2_with (go_at_call 19; refine (HE _).mono ?_)
              intro r w6 h6
              (first | (have hb6 := h6.2; have he6 := h6.1; clear h6; subst he6) | (intro hb6; subst h6))
              have l6 := later hb6
              go_upto_region 13 with fail
              refine wp_name ?_
              intro w7 hw7
              have B7 := boxed_set Bx hw7
              have l7 := later_put (W := wr) (p := ⟨wr.heap.size, 6, none⟩) (Nat.le_refl _) hw7
              clear hw7
              go_upto_region 17 with fail
              refine wp_name ?_
              intro w8 hw8
              have B8 := boxed_set B7 hw8
              have l8 := later_put (W := wr) (p := ⟨wr.heap.size, 8, none⟩) (Nat.le_refl _) hw8
              clear hw8
              go_upto_region 17 with fail
              go_wp2_with (at_builtin; refine wpList_app1 rfl (.tmp 68) (.tmp 70) rfl ScionE.enc scionT2 ({ x with distance := e.distance, weak := true }) rfl rfl rfl (ho1.later _) (by rfl) (by omega) (by unfold maxLen; omega) (below_of (b := w0)).size ?_; intro A' c' w2 hq hm hbq hgq hat)
              go_roundw
              case rel =>
                have hp := Apart.grown hap (ho2.later _) hgq hat
                exact ⟨k + 1, by omega, by go_num, by rw [K1.out, hk'.out, Option.toList_some]; exact hq, by rw [K2.out, hk'.out]; simp only [Option.isNone_some, Bool.false_eq_true, if_false, List.append_nil]; exact hp.2, hp.1, (below_of (b := w0)).trans hbq⟩
              case measure => simp [intOf]; omega
            · have hk' := hide (show keep1 es C S x = some { x with distance := e.distance } by simp [keep1, hf, ScionE.upd, settledB, hew, h1, h2])
              clear hf
              (try replace h1 := Int.not_le.1 h1)
              (try replace h2 := Int.not_le.1 h2)
              go_wp2_with (go_at_call 19; refine (HE _).mono ?_)
              intro r w6 h6
              (first | (have hb6 := h6.2; have he6 := h6.1; clear h6; subst he6) | (intro hb6; subst h6))
              have l6 := later hb6
              go_upto_region 13 with fail
              refine wp_name ?_
              intro w7 hw7
              have B7 := boxed_set Bx hw7
              have l7 := later_put (W := wr) (p := ⟨wr.heap.size, 6, none⟩) (Nat.le_refl _) hw7
              clear hw7
              go_upto_region 17 with fail
              go_wp2_with (at_builtin; refine wpList_app1 rfl (.tmp 68) (.tmp 70) rfl ScionE.enc scionT2 ({ x with distance := e.distance }) rfl rfl rfl (ho1.later _) (by rfl) (by omega) (by unfold maxLen; omega) (below_of (b := w0)).size ?_; intro A' c' w2 hq hm hbq hgq hat)
              go_roundw
              case rel =>
                have hp := Apart.grown hap (ho2.later _) hgq hat
                exact ⟨k + 1, by omega, by go_num, by rw [K1.out, hk'.out, Option.toList_some]; exact hq, by rw [K2.out, hk'.out]; simp only [Option.isNone_some, Bool.false_eq_true, if_false, List.append_nil]; exact hp.2, hp.1, (below_of (b := w0)).trans hbq⟩
              case measure => simp [intOf]; omega
          · have hk' := hide (show keep1 es C S x = some { x with distance := e.distance } by simp [keep1, hf, ScionE.upd, settledB, hew, h1])
            clear hf
            (try replace h1 := Int.not_le.1 h1)
            (try replace h2 := Int.not_le.1 h2)
            go_wp2_with (go_at_call 19; refine (HE _).mono ?_)
            intro r w6 h6
            (first | (have hb6 := h6.2; have he6 := h6.1; clear h6; subst he6) | (intro hb6; subst h6))
            have l6 := later hb6
            go_upto_region 13 with fail
            refine wp_name ?_
            intro w7 hw7
            have B7 := boxed_set Bx hw7
            have l7 := later_put (W := wr) (p := ⟨wr.heap.size, 6, none⟩) (Nat.le_refl _) hw7
            clear hw7
            go_upto_region 17 with fail
            go_wp2_with (at_builtin; refine wpList_app1 rfl (.tmp 68) (.tmp 70) rfl ScionE.enc scionT2 ({ x with distance := e.distance }) rfl rfl rfl (ho1.later _) (by rfl) (by omega) (by unfold maxLen; omega) (below_of (b := w0)).size ?_; intro A' c' w2 hq hm hbq hgq hat)
            go_roundw
            case rel =>
              have hp := Apart.grown hap (ho2.later _) hgq hat
              exact ⟨k + 1, by omega, by go_num, by rw [K1.out, hk'.out, Option.toList_some]; exact hq, by rw [K2.out, hk'.out]; simp only [Option.isNone_some, Bool.false_eq_true, if_false, List.append_nil]; exact hp.2, hp.1, (below_of (b := w0)).trans hbq⟩
            case measure => simp [intOf]; omega
    · have hk' : k = xs.length := by omega
      rw [hk', List.take_length] at ho1 ho2
      clear hk1 hk2 hk'
      go_wp2_with fail
      refine bodyPost_ret (v := .tuple #[_, _]) (results_tmp2 rfl _ _ _) rfl ?_
      exact ⟨_, _, rfl, ho1.mono hbase2, ho2.mono hbase2, below_of⟩
theorem refApply_any (sA : Option Addr) (sC : Nat) (xs : List ScionE) (L : ListV) (w : World) (hs : SlAt ScionE.cells 12 w sA xs) (hL : L.at_ w) (hsl : xs.length ≤ 100000000) :
    Calls Try.prog 17 #[.slice sA xs.length sC, L.v] w fun r w' => ∃ v1 v2, r = .returned (.tuple #[v1, v2]) ∧ Own ScionE.cells 12 43 w.heap.size w' v1 (keptL L.entries L.received L.sent xs) ∧
      Own ScionE.cells 12 43 w.heap.size w' v2 (remL L.entries L.received L.sent xs) ∧ Below w.heap.size w w' :=
  refApply_any' sA sC xs L.round L.sent L.received L.A L.c L.entries w hs hL.s hL.sl hsl
end Go.Proofs.Ythigjlllhnajbaa
