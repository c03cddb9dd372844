/-
  The law RetentionOrder. Conditions stand in the theorem.
-/
import Derived.Test.YtffnogjgnpbjlaaD58Law7
set_option linter.unusedSimpArgs false
set_option linter.unusedVariables false
namespace Go.Proofs.Ytffnogjgnpbjlaa
open Go.RowKit
attribute [local go_sem] Oper.semAt_some
attribute [local simp] heap_drew
attribute [local go_sem] Instr.makeFunc
theorem larL_len {L : List NodeC} {roots out : List IDE} {n : Int} (h : LarL L roots n out) {q : List IDE} (hq : ReachL L roots q) (hn : 0 ≤ n) : (out.length : Int) = min n (q.length : Int) := by
  obtain ⟨q', T, h1, h2, _, rfl⟩ := h
  have e := h1.unique hq
  subst e
  have hT := h2.length_eq
  rw [List.length_take]
  omega
theorem sizeI_nonneg (L : List NodeC) (roots : List IDE) (y : IDE) : 0 ≤ sizeI L roots y := by unfold sizeI; exact sumW_nonneg _
theorem SizesL.sz {L : List NodeC} {roots q : List IDE} {s : List Int} (h : SizesL L roots q s) (k : Nat) (y : IDE) (v : Int) (hq : q[k]? = some y) (hs : s[k]? = some v) : v = sizeI L roots y := by
  obtain ⟨v', h1, h2⟩ := h.2 k y hq
  rw [hs] at h1
  injection h1 with h1
  subst h1
  exact sizeP_iff.1 h2
theorem larL_mem {L : List NodeC} {roots out : List IDE} {n : Int} (h : LarL L roots n out) {q : List IDE} (hq : ReachL L roots q) {x : IDE} (hx : x ∈ out) : x ∈ q := by
  obtain ⟨q', T, h1, h2, _, rfl⟩ := h
  have e := h1.unique hq
  subst e
  exact (h2.mem_iff).1 (List.mem_of_mem_take hx)
theorem larL_pair {L : List NodeC} {roots out : List IDE} {n : Int} (h : LarL L roots n out) : out.Pairwise (bigger (sizeI L roots)) := by
  obtain ⟨q', T, _, _, h3, rfl⟩ := h
  exact h3.sublist (List.take_sublist _ _)
theorem larL_next {L : List NodeC} {roots out : List IDE} {n : Int} (h : LarL L roots n out) {j : Nat} {a b : IDE} (ha : out[j]? = some a) (hb : out[j + 1]? = some b) : bigger (sizeI L roots) a b := by
  have hp := larL_pair h
  obtain ⟨h1, e1⟩ := List.getElem?_eq_some_iff.1 ha
  obtain ⟨h2, e2⟩ := List.getElem?_eq_some_iff.1 hb
  rw [← e1, ← e2]
  exact List.pairwise_iff_getElem.1 hp j (j + 1) h1 h2 (Nat.lt_succ_self j)
theorem larL_rest {L : List NodeC} {roots out : List IDE} {n : Int} (h : LarL L roots n out) {q : List IDE} (hq : ReachL L roots q) {a y : IDE} (ha : a ∈ out) (hy : y ∈ q) (hn : y ∉ out) : bigger (sizeI L roots) a y := by
  obtain ⟨q', T, h1, h2, h3, rfl⟩ := h
  have e := h1.unique hq
  subst e
  have hyT := (h2.mem_iff).2 hy
  rw [← List.take_append_drop (min (max n 0) (q'.length : Int)).toNat T, List.mem_append] at hyT
  rw [← List.take_append_drop (min (max n 0) (q'.length : Int)).toNat T, List.pairwise_append] at h3
  rcases hyT with h4 | h4
  · exact absurd h4 hn
  · exact h3.2.2 a ha y h4
set_option maxRecDepth 100000 in
set_option maxHeartbeats 8000000 in
theorem lawOrder_any (A : Option Addr) (c : Nat) (l : List NodeE) (n : Int) (RA : Option Addr) (rc : Nat) (roots : List IDE) (w : World) (H : GraphIn w A c l) (hn0 : 0 ≤ n) (hn1 : n ≤ 255) (hR : SlAt IDE.cells 2 w RA roots) :
    Calls Try.prog 7 #[.agg #[.slice A l.length c], .int .u8 n, .slice RA roots.length rc] w fun r w' => r = .returned (.bool true) ∧ Below w.heap.size w w' := by
  have HG : ∀ u [Later w u], Calls Try.prog 11 #[.agg #[.slice A l.length c], .slice RA roots.length rc] u fun r w' => r = .returned (.bool (lrgB l roots)) ∧ Below u.heap.size u w' := fun u i => large_any A c l RA rc roots u ⟨H.at_.below i.below, H.len, H.fields⟩
  cases hlg : lrgB l roots with
  | true =>
    simp only [hlg] at HG
    go_enter Try.func7, Try.ntmps7
    go_upto_region 1 with fail
    refine wp_name ?_
    intro w1 hw1
    obtain ⟨B0, l1⟩ := box1 hw1
    clear hw1
    go_wp2_with (first | (go_at_call 10; refine (awake_any _).mono ?_; rintro r w2 ⟨rfl, hb2⟩; have l2 := later hb2) | (go_at_call 11; refine (HG _).mono ?_; rintro r w3 ⟨rfl, hb3⟩; have l3 := later hb3))
    go_ret
    exact ⟨rfl, below_of⟩
  | false =>
    simp only [hlg] at HG
    obtain ⟨hl, hf, hr⟩ := lrgB_no hlg
    have HD : ∀ u [Later w u], Calls Try.prog 15 #[.agg #[.slice A l.length c], .slice RA roots.length rc] u (SizP (conL l) roots u) := fun u i => sizes_any A c l RA rc roots u (H.at_.below i.below) (hR.below i.below) (by omega) hf (by omega)
    have HL1 : ∀ u [Later w u], Calls Try.prog 18 #[.agg #[.slice A l.length c], .int .i64 n, .slice RA roots.length rc] u (LarP (conL l) roots n u) := fun u i => larg_any A c l n RA rc roots u (H.at_.below i.below) (hR.below i.below) (by omega) hf (by omega)
    have hwn : IntKind.i64.wrap n = n := by rw [IntKind.wrap_i64]; omega
    clear hlg
    go_enter Try.func7, Try.ntmps7
    go_upto_region 1 with fail
    refine wp_name ?_
    intro w1 hw1
    obtain ⟨B0, l1⟩ := box1 hw1
    clear hw1
    go_upto_region 5 with (first | (go_at_call 10; refine (awake_any _).mono ?_; rintro r w2 ⟨rfl, hb2⟩; have l2 := later hb2) | (go_at_call 11; refine (HG _).mono ?_; rintro r w3 ⟨rfl, hb3⟩; have l3 := later hb3))
    go_upto_region 6 with (go_at_call 15; refine (HD _).mono ?_; intro r w4 hh; obtain ⟨q, z, QA, QC, ZA, ZC, rfl, hq, hoq, hoz, _, hb4⟩ := hh; have l4 := later hb4)
    have l44 : Later w4 w4 := Later.refl
    refine wp_name ?_
    intro w5 hw5
    have h7 : w5.heap[w4.heap.size]? = some (.cells #[.slice QA q.length QC] 25 (0, 0)) := (by rw [← hw5]; simp only [heap_alloc_if, World.size_alloc]; repeat (first | rw [if_pos trivial] | rw [if_neg (by omega)] | rw [if_pos (by omega)]); try rfl)
    have h8 : w5.heap[w4.heap.size + 1]? = some (.cells #[.slice ZA q.length ZC] 32 (0, 0)) := (by rw [← hw5]; simp only [heap_alloc_if, World.size_alloc]; repeat (first | rw [if_pos trivial] | rw [if_neg (by omega)] | rw [if_pos (by omega)]); try rfl)
    have hb5 : Below w4.heap.size w4 w5 := by rw [← hw5]; exact (by repeat (first | with_reducible exact Below.refl _ _ | (with_reducible refine Below.drew ?_) | (with_reducible refine below_drewN ?_ _) | (with_reducible refine Below.alloc ?_ ?_ _; rotate_left; (first | omega | (simp <;> omega))) | (with_reducible refine Below.setCell ?_ ?_ _; rotate_left; (first | omega | (simp <;> omega)))))
    have l5 := later hb5
    have l55 : Later w5 w5 := Later.refl
    clear hw5
    have X7 := boxed h7
    have X8 := boxed h8
    go_upto_region 7 with (go_at_call 18; refine (HL1 _).mono ?_; rintro r w8 ⟨o, OA, OC, rfl, ho, hSo, hb8⟩; have l8 := later hb8)
    have hol := larL_len ho.out.1 hq.out.1 hn0
    go_upto_region 9 with fail
    have hsz := hide hq.out.2.1.sz
    have hql := reachL_len hq.out.1 hl
    have hzq : z.length = q.length := hq.out.2.1.1
    have hol1 : o.length ≤ 100 := by omega
    have HO : ∀ u [Later w8 u], SlAt IDE.cells 2 u OA o := fun u i => hSo.below i.below
    have HQ5 : ∀ u [Later w5 u], SlAt IDE.cells 2 u QA q := fun u i => by haveI := (l5 w4).trans i; exact ((hoq.later u).at_ IDE.enc).2.2
    have HZ5 : ∀ u [Later w5 u], SlAt I64.cells 1 u ZA z := fun u i => by
      rw [← hzq] at hoz
      haveI := (l5 w4).trans i; exact ((hoz.later u).at_ I64.enc).2.2
    have HOf : ∀ (x : IDE) (u : World) [Later w5 u], x ∈ q → Calls Try.prog 25 #[x.v, .pointer (some ⟨w4.heap.size, 0, none⟩), .pointer (some ⟨w4.heap.size + 1, 0, none⟩)] u fun r w' => r = .returned (.int .i64 (sizeI (conL l) roots x)) ∧ Below u.heap.size u w' := fun x u i hx => by
      have h := of_any q z (sizeI (conL l) roots) QA QC ZA ZC _ _ x u (blk_below h7 i.below) (blk_below h8 i.below) (HQ5 u) (HZ5 u) hzq (by omega) hsz.out
      unfold ofI at h
      rw [if_pos hx] at h
      exact h
    have HoL := hide ho.out.1
    have Hq := hide hq.out.1
    have hnn := hide (sizeI_nonneg (conL l) roots)
    have Hzq := hide hzq
    have l88 : Later w8 w8 := Later.refl
    have l58 : Later w5 w8 := by infer_instance
    clear ho hq hoq hoz hSo hzq HG HD HL1 hol
    go_wp2_with fail
    go_loopw [11] (fun kv wr => ∃ k : Nat, k ≤ o.length ∧ kv = .int .i64 k ∧ Below w8.heap.size w8 wr) (fun kv _ => o.length - (intOf kv).toNat)
    case atStart => exact ⟨0, by omega, rfl, Below.refl _ _⟩
    case round =>
      obtain ⟨k, hk, rfl, hbr⟩ := hrel
      have lr := later hbr
      have lrr : Later wr wr := Later.refl
      by_cases hlt : k < o.length
      · have hki : (k : Int) < (o.length : Int) := by omega
        obtain ⟨b, hb⟩ : ∃ b, o[k]? = some b := ⟨_, List.getElem?_eq_getElem hlt⟩
        obtain ⟨bo, oo, rfl, C1, C2⟩ := id_at (HO w8) hb
        have HB := fun (u : World) (i : Later w5 u) => HOf b u (larL_mem HoL.out Hq.out (List.mem_of_getElem? hb))
        cases k with
        | zero =>
          have hsb := hnn.out b
          generalize sizeI (conL l) roots b = sb at HB hsb
          clear hb
          obtain ⟨b1, b2⟩ := b
          dsimp only at C1 C2
          simp only [Nat.zero_mul, Nat.add_zero, Nat.zero_add] at C1 C2
          dsimp only [IDE.v] at HB
          have hnb : decide (sb < 0) = false := decide_eq_false (by omega)
          go_upto_region 13 with fail
          (refine wp_region_after (by kernel_rfl) (by kernel_rfl) ?_
           repeat (any_goals (first | go_big_quiet_skip | (go_big_quiet_want; go_big_quiet_op; first | go_big_quiet_on | go_big_quiet_call ((go_at_call 25; exact Calls.after (HB _ inferInstance)))) | quiet_step ((go_at_call 25; exact Calls.after (HB _ inferInstance))) | (refine wpQuiet_step (fun K hK => ?_); go_simp; split <;> (refine hK _ ?_; clear hK K))))
           all_goals (refine wpQuiet_nil ?_; intro _ hw'; obtain ⟨u', hw''⟩ := hw'; subst hw''; obtain ⟨wd, hbd⟩ := u'; simp only [After.val_mk]))
          have ld := later hbd
          go_wp2_with fail
          go_roundw
          case rel => exact ⟨1, by omega, by go_num, below_of⟩
          case measure => simp [intOf]; omega
        | succ j =>
          obtain ⟨a, ha⟩ : ∃ a, o[j]? = some a := ⟨_, List.getElem?_eq_getElem (by omega)⟩
          obtain ⟨bo2, oo2, e2, D1, D2⟩ := id_at (HO w8) ha
          cases e2
          have HA := fun (u : World) (i : Later w5 u) => HOf a u (larL_mem HoL.out Hq.out (List.mem_of_getElem? ha))
          have hbig := larL_next HoL.out ha hb
          unfold bigger at hbig
          have hsb := hnn.out b
          have HC := fun (u : World) => compare21_any a b u
          generalize sizeI (conL l) roots b = sb at HB hsb hbig
          generalize sizeI (conL l) roots a = sa at HA hbig
          clear ha hb
          have hnb : decide (sb < 0) = false := decide_eq_false (by omega)
          have hjl : (j : Int) < (o.length : Int) := by omega
          have hwj : IntKind.i64.wrap (((j + 1 : Nat) : Int) - 1) = (j : Int) := by rw [IntKind.wrap_i64]; omega
          rcases hbig with hlt2 | ⟨heq, hlI⟩
          · have hnl : decide (sa < sb) = false := decide_eq_false (by omega)
            have hne : (sa == sb) = false := by simp; omega
            clear hlt2 HC
            obtain ⟨b1, b2⟩ := b
            obtain ⟨a1, a2⟩ := a
            dsimp only at C1 C2 D1 D2
            dsimp only [IDE.v] at HB HA
            go_upto_region 13 with fail
            (refine wp_region_after (by kernel_rfl) (by kernel_rfl) ?_
             repeat (any_goals (first | go_big_quiet_skip | (go_big_quiet_want; go_big_quiet_op; first | go_big_quiet_on | go_big_quiet_call ((first | (go_at_call_has 25 (Value.agg #[.int .i64 b1, .int .i64 b2]); exact Calls.after (HB _ inferInstance)) | (go_at_call_has 25 (Value.agg #[.int .i64 a1, .int .i64 a2]); exact Calls.after (HA _ inferInstance))))) | quiet_step ((first | (go_at_call_has 25 (Value.agg #[.int .i64 b1, .int .i64 b2]); exact Calls.after (HB _ inferInstance)) | (go_at_call_has 25 (Value.agg #[.int .i64 a1, .int .i64 a2]); exact Calls.after (HA _ inferInstance)))) | (refine wpQuiet_step (fun K hK => ?_); go_simp; split <;> (refine hK _ ?_; clear hK K))))
             all_goals (refine wpQuiet_nil ?_; intro _ hw'; obtain ⟨u', hw''⟩ := hw'; subst hw''; obtain ⟨wd, hbd⟩ := u'; simp only [After.val_mk]))
            have ld := later hbd
            go_wp2_with fail
            go_roundw
            case rel => exact ⟨j + 1 + 1, by omega, by go_num, below_of⟩
            case measure => simp [intOf]; omega
          · subst heq
            have hcv : cmpI a b = -1 := by
              unfold cmpI
              rw [if_neg (by rintro rfl; exact ltI_irrefl _ hlI), if_pos hlI]
            rw [hcv] at HC
            clear hcv hlI
            obtain ⟨b1, b2⟩ := b
            obtain ⟨a1, a2⟩ := a
            dsimp only at C1 C2 D1 D2
            dsimp only [IDE.v] at HB HA HC
            go_upto_region 13 with fail
            (refine wp_region_after (by kernel_rfl) (by kernel_rfl) ?_
             repeat (any_goals (first | go_big_quiet_skip | (go_big_quiet_want; go_big_quiet_op; first | go_big_quiet_on | go_big_quiet_call ((first | (go_at_call 26; exact Calls.after (HC _)) | (go_at_call_has 25 (Value.agg #[.int .i64 b1, .int .i64 b2]); exact Calls.after (HB _ inferInstance)) | (go_at_call_has 25 (Value.agg #[.int .i64 a1, .int .i64 a2]); exact Calls.after (HA _ inferInstance))))) | quiet_step ((first | (go_at_call 26; exact Calls.after (HC _)) | (go_at_call_has 25 (Value.agg #[.int .i64 b1, .int .i64 b2]); exact Calls.after (HB _ inferInstance)) | (go_at_call_has 25 (Value.agg #[.int .i64 a1, .int .i64 a2]); exact Calls.after (HA _ inferInstance)))) | (refine wpQuiet_step (fun K hK => ?_); go_simp; split <;> (refine hK _ ?_; clear hK K))))
             all_goals (refine wpQuiet_nil ?_; intro _ hw'; obtain ⟨u', hw''⟩ := hw'; subst hw''; obtain ⟨wd, hbd⟩ := u'; simp only [After.val_mk]))
            have ld := later hbd
            go_wp2_with fail
            go_roundw
            case rel => exact ⟨j + 1 + 1, by omega, by go_num, below_of⟩
            case measure => simp [intOf]; omega
      · have hkk : k = o.length := by omega
        subst hkk
        obtain ⟨wE, rfl⟩ : ∃ z, z = wr := ⟨_, rfl⟩
        have l5E : Later w5 wE := by infer_instance
        go_wp2_with fail
        go_loopw [12] (fun kv wr => ∃ m : Nat, m ≤ q.length ∧ kv = .int .i64 m ∧ Below wE.heap.size wE wr) (fun kv _ => q.length - (intOf kv).toNat)
        case atStart => exact ⟨0, by omega, rfl, Below.refl _ _⟩
        case round =>
          obtain ⟨m, hm, rfl, hbm⟩ := hrel
          have lm := later hbm
          have lmm : Later wr wr := Later.refl
          by_cases hltm : m < q.length
          · have hmi : (m : Int) < (q.length : Int) := by omega
            by_cases hpos : 0 < o.length
            · have hpi : (0 : Int) < (o.length : Int) := by omega
              obtain ⟨y, hy⟩ : ∃ y, q[m]? = some y := ⟨_, List.getElem?_eq_getElem hltm⟩
              obtain ⟨v, hv⟩ : ∃ v, z[m]? = some v := ⟨_, List.getElem?_eq_getElem (by rw [Hzq.out]; exact hltm)⟩
              obtain ⟨a, ha⟩ : ∃ a, o[o.length - 1]? = some a := ⟨_, List.getElem?_eq_getElem (by omega)⟩
              have hvy := hsz.out m y v hy hv
              obtain ⟨bq, oq, rfl, Y1, Y2⟩ := id_at (HQ5 w5) hy
              obtain ⟨bz, oz, rfl, V1⟩ := int_at (HZ5 w5) hv
              obtain ⟨bo, oo, rfl, D1, D2⟩ := id_at (HO w8) ha
              have HA := fun (u : World) (i : Later w5 u) => HOf a u (larL_mem HoL.out Hq.out (List.mem_of_getElem? ha))
              have HH := fun (u : World) (i : Later w8 u) => has21_any (some ⟨bo, oo, none⟩) OC o y u (HO u) (by omega)
              have hrest0 : y ∉ o → v ≤ sizeI (conL l) roots a := fun hn => by
                have h := larL_rest HoL.out Hq.out (List.mem_of_getElem? ha) (List.mem_of_getElem? hy) hn
                unfold bigger at h
                rw [← hvy] at h
                omega
              have hwj : IntKind.i64.wrap ((o.length : Int) - 1) = ((o.length - 1 : Nat) : Int) := by rw [IntKind.wrap_i64]; omega
              generalize sizeI (conL l) roots a = sa at HA hrest0
              have hrest := hide hrest0
              clear hrest0
              clear hy hv ha
              cases hmem : decide (y ∈ o) with
              | true =>
                simp only [hmem] at HH
                clear hmem hrest hvy
                obtain ⟨y1, y2⟩ := y
                dsimp only at Y1 Y2
                dsimp only [IDE.v] at HH
                go_upto_region 18 with fail
                (refine wp_region_after (by kernel_rfl) (by kernel_rfl) ?_
                 repeat (any_goals (first | go_big_quiet_skip | (go_big_quiet_want; go_big_quiet_op; first | go_big_quiet_on | go_big_quiet_call ((go_at_call 24; exact Calls.after (HH _ inferInstance)))) | quiet_step ((go_at_call 24; exact Calls.after (HH _ inferInstance))) | (refine wpQuiet_step (fun K hK => ?_); go_simp; split <;> (refine hK _ ?_; clear hK K))))
                 all_goals (refine wpQuiet_nil ?_; intro _ hw'; obtain ⟨u', hw''⟩ := hw'; subst hw''; obtain ⟨wd, hbd⟩ := u'; simp only [After.val_mk]))
                have ld := later hbd
                go_wp2_with fail
                go_roundw
                case rel => exact ⟨m + 1, by omega, by go_num, below_of⟩
                case measure => simp [intOf]; omega
              | false =>
                have hb := hrest.out (of_decide_eq_false hmem)
                have hnv : decide (sa < v) = false := decide_eq_false (by omega)
                simp only [hmem] at HH
                clear hmem hrest hvy hb
                obtain ⟨y1, y2⟩ := y
                obtain ⟨a1, a2⟩ := a
                dsimp only at Y1 Y2 D1 D2
                dsimp only [IDE.v] at HH HA
                go_upto_region 18 with fail
                (refine wp_region_after (by kernel_rfl) (by kernel_rfl) ?_
                 repeat (any_goals (first | go_big_quiet_skip | (go_big_quiet_want; go_big_quiet_op; first | go_big_quiet_on | go_big_quiet_call ((first | (go_at_call 24; exact Calls.after (HH _ inferInstance)) | (go_at_call 25; exact Calls.after (HA _ inferInstance))))) | quiet_step ((first | (go_at_call 24; exact Calls.after (HH _ inferInstance)) | (go_at_call 25; exact Calls.after (HA _ inferInstance)))) | (refine wpQuiet_step (fun K hK => ?_); go_simp; split <;> (refine hK _ ?_; clear hK K))))
                 all_goals (refine wpQuiet_nil ?_; intro _ hw'; obtain ⟨u', hw''⟩ := hw'; subst hw''; obtain ⟨wd, hbd⟩ := u'; simp only [After.val_mk]))
                have ld := later hbd
                go_wp2_with fail
                go_roundw
                case rel => exact ⟨m + 1, by omega, by go_num, below_of⟩
                case measure => simp [intOf]; omega
            · have hpi : ¬ (0 : Int) < (o.length : Int) := by omega
              go_wp2_with fail
              go_ret
              exact ⟨rfl, below_of⟩
          · have hkk : m = q.length := by omega
            subst hkk
            go_wp2_with fail
            go_ret
            exact ⟨rfl, below_of⟩
end Go.Proofs.Ytffnogjgnpbjlaa
