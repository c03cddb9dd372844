/-
  Small texts of this seat, put into one. Conditions stand in each theorem.
-/
import Derived.Test.YtomgdkfoinojiaaS32Walk1
set_option linter.unusedSimpArgs false
set_option linter.unusedVariables false
namespace Go.Proofs.Ytomgdkfoinojiaa
open Go.RowKit
set_option maxHeartbeats 800000 in
theorem run_eql_InsetE (x y : InsetE) (w : World) : (binOp .eql 58 x.v y.v).run Try.prog w = .ok (.bool (InsetE.beq x y)) w := by
  have ht : Try.prog.underlying 58 = some (.struct (Try.prog.fieldsOf 58)) := by kernel_rfl
  have hp : Try.prog.stoodInHeld 58 = false := by kernel_rfl
  have hu := Try.underlying58
  rw [run_eql_struct, run_equalIn_struct w 9999 58 _ _ ht hp]
  obtain ⟨fs, hfs⟩ : ∃ fs, Try.prog.fieldsOf 58 = fs := ⟨_, rfl⟩
  rw [hfs] at ht ⊢
  rw [hu] at ht
  have ht2 := TypeDesc.struct.inj (Option.some.inj ht)
  subst ht2
  simp only [Op.eqFields, ne_eq]
  simp [go_sem, InsetE.beq]
  clear hfs hu ht hp
  by_cases h0 : x.client = y.client
  rotate_left
  · rw [if_neg h0]
    simp [beq_eq_false_iff_ne.2 h0]
  rw [if_pos h0]
  have e0 := beq_iff_eq.2 h0
  by_cases h1 : x.number = y.number
  rotate_left
  · rw [if_neg h1]
    simp [beq_eq_false_iff_ne.2 h1]
  rw [if_pos h1]
  have e1 := beq_iff_eq.2 h1
  by_cases h2 : x.out = y.out
  rotate_left
  · rw [if_neg h2]
    simp [beq_eq_false_iff_ne.2 h2]
  rw [if_pos h2]
  have e2 := beq_iff_eq.2 h2
  simp only [e0, e1, e2]
  rfl
set_option maxHeartbeats 800000 in
theorem run_neq_InsetE (x y : InsetE) (w : World) : (binOp .neq 58 x.v y.v).run Try.prog w = .ok (.bool (!InsetE.beq x y)) w := by
  have ht : Try.prog.underlying 58 = some (.struct (Try.prog.fieldsOf 58)) := by kernel_rfl
  have hp : Try.prog.stoodInHeld 58 = false := by kernel_rfl
  have hu := Try.underlying58
  rw [run_neq_struct, run_equalIn_struct w 9999 58 _ _ ht hp]
  obtain ⟨fs, hfs⟩ : ∃ fs, Try.prog.fieldsOf 58 = fs := ⟨_, rfl⟩
  rw [hfs] at ht ⊢
  rw [hu] at ht
  have ht2 := TypeDesc.struct.inj (Option.some.inj ht)
  subst ht2
  simp only [Op.eqFields, ne_eq]
  simp [go_sem, InsetE.beq]
  clear hfs hu ht hp
  by_cases h0 : x.client = y.client
  rotate_left
  · rw [if_neg h0]
    simp [beq_eq_false_iff_ne.2 h0]
  rw [if_pos h0]
  have e0 := beq_iff_eq.2 h0
  by_cases h1 : x.number = y.number
  rotate_left
  · rw [if_neg h1]
    simp [beq_eq_false_iff_ne.2 h1]
  rw [if_pos h1]
  have e1 := beq_iff_eq.2 h1
  by_cases h2 : x.out = y.out
  rotate_left
  · rw [if_neg h2]
    simp [beq_eq_false_iff_ne.2 h2]
  rw [if_pos h2]
  have e2 := beq_iff_eq.2 h2
  simp only [e0, e1, e2]
  rfl
theorem neI {a b : Int} (h : a ≠ b) : (a != b) = true := by simpa using h
set_option maxRecDepth 100000 in
set_option maxHeartbeats 2000000 in
attribute [local go_sem ↓] run_neq_InsetE in
theorem same31_any (x y : SumE) (w : World) (hx : SlAt InsetE.cells 3 w x.A x.inset) (hy : SlAt InsetE.cells 3 w y.A y.inset) (hxl : x.inset.length ≤ 1000000000) (hyl : y.inset.length ≤ 1000000000) :
    Calls Try.prog 16 #[x.v, y.v] w fun r w' => r = .returned (.bool (decide (x.con = y.con))) ∧ Below w.heap.size w w' := by
  obtain ⟨V, hV⟩ : ∃ V, V = decide (x.con = y.con) := ⟨_, rfl⟩
  rw [← hV]
  obtain ⟨x1, x2, x3, x4, aA, aC, a⟩ := x
  obtain ⟨y1, y2, y3, y4, bA, bC, b⟩ := y
  have hV2 : V = decide (x1 = y1 ∧ x2 = y2 ∧ x3 = y3 ∧ x4 = y4 ∧ a = b) := by rw [hV, decide_eq_decide]; simp [SumE.con]
  dsimp only [SumE.v] at *
  have HV := hide hV2
  clear hV hV2
  by_cases h1 : x1 = y1
  rotate_left
  · have Hn := hide (show V = false by rw [HV.out]; exact decide_eq_false (fun h => h1 h.1))
    have h1' := neI h1
    clear hx hy
    go_enter Try.func16, Try.ntmps16
    go_upto_region 1 with fail
    refine wp_name ?_
    intro w0 hw0
    obtain ⟨B0, B1, l0⟩ := box2 hw0
    clear hw0
    go_wp2_with fail
    go_ret
    exact ⟨ret_bool Hn.out.symm, below_of⟩
  by_cases h2 : x2 = y2
  rotate_left
  · have Hn := hide (show V = false by rw [HV.out]; exact decide_eq_false (fun h => h2 h.2.1))
    have h2' := neI h2
    clear hx hy
    subst h1
    go_enter Try.func16, Try.ntmps16
    go_upto_region 1 with fail
    refine wp_name ?_
    intro w0 hw0
    obtain ⟨B0, B1, l0⟩ := box2 hw0
    clear hw0
    go_wp2_with fail
    go_ret
    exact ⟨ret_bool Hn.out.symm, below_of⟩
  by_cases h3 : x3 = y3
  rotate_left
  · have Hn := hide (show V = false by rw [HV.out]; exact decide_eq_false (fun h => h3 h.2.2.1))
    clear hx hy
    subst h1 h2
    cases x3 <;> cases y3 <;> first | (exact absurd rfl h3) | skip
    all_goals clear h3
    · go_enter Try.func16, Try.ntmps16
      go_upto_region 1 with fail
      refine wp_name ?_
      intro w0 hw0
      obtain ⟨B0, B1, l0⟩ := box2 hw0
      clear hw0
      go_wp2_with fail
      go_ret
      exact ⟨ret_bool Hn.out.symm, below_of⟩
    · go_enter Try.func16, Try.ntmps16
      go_upto_region 1 with fail
      refine wp_name ?_
      intro w0 hw0
      obtain ⟨B0, B1, l0⟩ := box2 hw0
      clear hw0
      go_wp2_with fail
      go_ret
      exact ⟨ret_bool Hn.out.symm, below_of⟩
  by_cases h4 : x4 = y4
  rotate_left
  · have Hn := hide (show V = false by rw [HV.out]; exact decide_eq_false (fun h => h4 h.2.2.2.1))
    have h4' := neI h4
    clear hx hy
    subst h1 h2 h3
    go_enter Try.func16, Try.ntmps16
    go_upto_region 1 with fail
    refine wp_name ?_
    intro w0 hw0
    obtain ⟨B0, B1, l0⟩ := box2 hw0
    clear hw0
    go_wp2_with fail
    go_ret
    exact ⟨ret_bool Hn.out.symm, below_of⟩
  by_cases h5 : a.length = b.length
  rotate_left
  · have Hn := hide (show V = false by rw [HV.out]; exact decide_eq_false (fun h => h5 (congrArg List.length h.2.2.2.2)))
    have h5' : ((a.length : Int) != (b.length : Int)) = true := neI (by omega)
    clear hx hy
    subst h1 h2 h3 h4
    clear h5
    go_enter Try.func16, Try.ntmps16
    go_upto_region 1 with fail
    refine wp_name ?_
    intro w0 hw0
    obtain ⟨B0, B1, l0⟩ := box2 hw0
    clear hw0
    go_wp2_with fail
    go_ret
    exact ⟨ret_bool Hn.out.symm, below_of⟩
  have Hl := hide h5
  have h5' : ((a.length : Int) != (b.length : Int)) = false := by simp [h5]
  subst h1 h2 h3 h4
  clear h5
  have Ha := hx.later
  have Hb := hy.later
  have hxl' : a.length ≤ 9223372036854775807 := by omega
  have HV2 := hide (show V = decide (a = b) by rw [HV.out]; simp)
  go_enter Try.func16, Try.ntmps16
  go_upto_region 1 with fail
  refine wp_name ?_
  intro w0 hw0
  obtain ⟨B0, B1, l0⟩ := box2 hw0
  clear hw0
  go_wp2_with fail
  go_loopw [5] (fun i wr => ∃ k : Nat, k ≤ a.length ∧ i = .int .i64 k ∧ (∀ (j : Nat) (x y : InsetE), j < k → a[j]? = some x → b[j]? = some y → x = y) ∧ Below w0.heap.size w0 wr) (fun i _ => a.length - (intOf i).toNat)
  case atStart => exact ⟨0, by omega, rfl, fun j _ _ h => absurd h (by omega), Below.refl _ _⟩
  case round =>
    obtain ⟨k, hk, rfl, hall, hbw⟩ := hrel
    have lr := later hbw
    by_cases hlt : k < a.length
    · have hki : (k : Int) < (a.length : Int) := by omega
      have hlt2 : k < b.length := by rw [← Hl.out]; exact hlt
      have hki2 : (k : Int) < (b.length : Int) := by omega
      obtain ⟨g1, o1, x, rfl, hx1, C1⟩ := InsetE.get (Ha wr) hlt
      obtain ⟨g2, o2, y, rfl, hy1, C2⟩ := InsetE.get (Hb wr) hlt2
      have Hall := hide hall
      have Hx := hide hx1
      have Hy := hide hy1
      clear hall hx1 hy1
      go_upto_region 6 with fail
      (refine wp_region_after (by kernel_rfl) (by kernel_rfl) ?_
       repeat (any_goals (first | go_big_quiet_skip | (go_big_quiet_want; go_big_quiet_op; first | go_big_quiet_on | go_big_quiet_call (fail)) | quiet_step (fail) | (refine wpQuiet_step (fun K hK => ?_); go_simp; split <;> (refine hK _ ?_; clear hK K))))
       all_goals (refine wpQuiet_nil ?_; intro _ hw'; obtain ⟨u', hw''⟩ := hw'; subst hw''; obtain ⟨wd, hbd⟩ := u'; simp only [After.val_mk]))
      have ld := later hbd
      cases hxy : InsetE.beq x y
      · go_wp2_with fail
        go_ret
        exact ⟨ret_bool (by
          rw [HV2.out]
          refine (decide_eq_false fun h => ?_).symm
          have hx := Hx.out
          have hy := Hy.out
          rw [h, hy] at hx
          injection hx with hx
          rw [InsetE.beq_iff.2 hx.symm] at hxy
          cases hxy), below_of⟩
      · go_wp2_with fail
        go_roundw
        case rel => exact ⟨k + 1, by omega, by go_num, fun j x' y' hj hx' hy' => by
          rcases Nat.lt_or_ge j k with h | h
          · exact Hall.out j x' y' h hx' hy'
          · have : j = k := by omega
            subst this
            have hx := Hx.out
            have hy := Hy.out
            rw [hx] at hx'; injection hx' with hx'
            rw [hy] at hy'; injection hy' with hy'
            rw [← hx', ← hy']
            exact InsetE.beq_iff.1 hxy, hbw.trans (hbd.mono hbw.size)⟩
        case measure => simp [intOf]; omega
    · have hke : k = a.length := by omega
      subst hke
      have Hall := hide hall
      clear hall
      go_wp2_with fail
      go_ret
      have hab : a = b := List.ext_getElem? fun i => by
        rcases Nat.lt_or_ge i a.length with h | h
        · have h2 : i < b.length := by rw [← Hl.out]; exact h
          rw [List.getElem?_eq_getElem h, List.getElem?_eq_getElem h2]
          exact congrArg some (Hall.out i _ _ h (List.getElem?_eq_getElem h) (List.getElem?_eq_getElem h2))
        · rw [List.getElem?_eq_none h, List.getElem?_eq_none (by rw [← Hl.out]; exact h)]
      exact ⟨ret_bool (by rw [HV2.out]; exact (decide_eq_true hab).symm), below_of⟩
end Go.Proofs.Ytomgdkfoinojiaa

namespace Go.Proofs.Ytomgdkfoinojiaa
open Go.RowKit
theorem map_ext2 {α β : Type} {f : α → β} {a b : List α} (hl : a.length = b.length) (h : ∀ (j : Nat) (x y : α), j < a.length → a[j]? = some x → b[j]? = some y → f x = f y) : a.map f = b.map f := by
  apply List.ext_getElem?
  intro i
  rw [List.getElem?_map, List.getElem?_map]
  rcases Nat.lt_or_ge i a.length with hi | hi
  · have h2 : i < b.length := by omega
    rw [List.getElem?_eq_getElem hi, List.getElem?_eq_getElem h2]
    exact congrArg some (h i _ _ hi (List.getElem?_eq_getElem hi) (List.getElem?_eq_getElem h2))
  · rw [List.getElem?_eq_none hi, List.getElem?_eq_none (by omega)]
theorem map_ne2 {α β : Type} {f : α → β} {a b : List α} {k : Nat} {x y : α} (hx : a[k]? = some x) (hy : b[k]? = some y) (hn : f x ≠ f y) : a.map f ≠ b.map f := fun h => hn (by
  have := congrArg (fun l : List β => l[k]?) h
  simp only [List.getElem?_map, hx, hy, Option.map_some, Option.some.injEq] at this
  exact this)
set_option maxRecDepth 100000 in
set_option maxHeartbeats 2000000 in
theorem same32_any (p1 p2 : Int) (A B : Option Addr) (c d : Nat) (a b : List SumE) (w : World) (ha : SumsAt w A a) (hb : SumsAt w B b) (hal : a.length ≤ 1000000000) (hbl : b.length ≤ 1000000000) (hai : ∀ n ∈ a, n.inset.length ≤ 1000000000) (hbi : ∀ n ∈ b, n.inset.length ≤ 1000000000) :
    Calls Try.prog 12 #[.agg #[.int .i64 p1, .slice A a.length c], .agg #[.int .i64 p2, .slice B b.length d]] w fun r w' => r = .returned (.bool (decide (p1 = p2 ∧ a.map SumE.con = b.map SumE.con))) ∧ Below w.heap.size w w' := by
  obtain ⟨V, hV⟩ : ∃ V, V = decide (p1 = p2 ∧ a.map SumE.con = b.map SumE.con) := ⟨_, rfl⟩
  rw [← hV]
  have HV := hide hV
  clear hV
  have Ha := ha.later
  have Hb := hb.later
  have hal' : a.length ≤ 9223372036854775807 := by omega
  by_cases h1 : p1 = p2
  rotate_left
  · have Hn := hide (show V = false by rw [HV.out]; exact decide_eq_false (fun h => h1 h.1))
    have h1' := neI h1
    go_enter Try.func12, Try.ntmps12
    go_upto_region 1 with fail
    refine wp_name ?_
    intro w0 hw0
    obtain ⟨B0, B1, l0⟩ := box2 hw0
    clear hw0
    go_wp2_with fail
    go_ret
    exact ⟨ret_bool Hn.out.symm, below_of⟩
  subst h1
  by_cases h5 : a.length = b.length
  rotate_left
  · have Hn := hide (show V = false by rw [HV.out]; exact decide_eq_false (fun h => h5 (by have := congrArg List.length h.2; simpa using this)))
    have h5' : ((a.length : Int) != (b.length : Int)) = true := neI (by omega)
    clear h5
    go_enter Try.func12, Try.ntmps12
    go_upto_region 1 with fail
    refine wp_name ?_
    intro w0 hw0
    obtain ⟨B0, B1, l0⟩ := box2 hw0
    clear hw0
    go_wp2_with fail
    go_ret
    exact ⟨ret_bool Hn.out.symm, below_of⟩
  have Hl := hide h5
  have h5' : ((a.length : Int) != (b.length : Int)) = false := by simp [h5]
  clear h5
  go_enter Try.func12, Try.ntmps12
  go_upto_region 1 with fail
  refine wp_name ?_
  intro w0 hw0
  obtain ⟨B0, B1, l0⟩ := box2 hw0
  clear hw0
  go_wp2_with fail
  go_loopw [5] (fun i wr => ∃ k : Nat, k ≤ a.length ∧ i = .int .i64 k ∧ (∀ (j : Nat) (x y : SumE), j < k → a[j]? = some x → b[j]? = some y → x.con = y.con) ∧ Below w0.heap.size w0 wr) (fun i _ => a.length - (intOf i).toNat)
  case atStart => exact ⟨0, by omega, rfl, fun j _ _ h => absurd h (by omega), Below.refl _ _⟩
  case round =>
    obtain ⟨k, hk, rfl, hall, hbw⟩ := hrel
    have lr := later hbw
    by_cases hlt : k < a.length
    · have hki : (k : Int) < (a.length : Int) := by omega
      have hlt2 : k < b.length := by rw [← Hl.out]; exact hlt
      have hki2 : (k : Int) < (b.length : Int) := by omega
      obtain ⟨g1, o1, x, rfl, hx1, C1, F1, -, -⟩ := (Ha wr).get hlt
      obtain ⟨g2, o2, y, rfl, hy1, C2, F2, -, -⟩ := (Hb wr).get hlt2
      have hxl := hai x (List.mem_of_getElem? hx1)
      have hyl := hbi y (List.mem_of_getElem? hy1)
      have HS : ∀ u [Later wr u], Calls Try.prog 16 #[.agg #[.int .i64 x.owner, .int .u64 x.number, .bool x.rooted, .int .i64 x.distance, .slice x.A x.inset.length x.c], .agg #[.int .i64 y.owner, .int .u64 y.number, .bool y.rooted, .int .i64 y.distance, .slice y.A y.inset.length y.c]] u fun r w' => r = .returned (.bool (decide (x.con = y.con))) ∧ Below u.heap.size u w' := fun u i => same31_any x y u (F1 u) (F2 u) hxl hyl
      have Hall := hide hall
      have Hx := hide hx1
      have Hy := hide hy1
      obtain ⟨q, hq⟩ : ∃ q, q = decide (x.con = y.con) := ⟨_, rfl⟩
      rw [← hq] at HS
      have Hq := hide hq
      clear hall hx1 hy1 F1 F2 hxl hyl hq
      go_upto_region 6 with fail
      (refine wp_region_after (by kernel_rfl) (by kernel_rfl) ?_
       repeat (any_goals (first | go_big_quiet_skip | (go_big_quiet_want; go_big_quiet_op; first | go_big_quiet_on | go_big_quiet_call ((go_at_call 16; exact Calls.after (HS _)))) | quiet_step ((go_at_call 16; exact Calls.after (HS _))) | (refine wpQuiet_step (fun K hK => ?_); go_simp; split <;> (refine hK _ ?_; clear hK K))))
       all_goals (refine wpQuiet_nil ?_; intro _ hw'; obtain ⟨u', hw''⟩ := hw'; subst hw''; obtain ⟨wd, hbd⟩ := u'; simp only [After.val_mk]))
      have ld := later hbd
      cases q
      · have hne := hide (show V = false by rw [HV.out]; exact decide_eq_false (fun h => map_ne2 Hx.out Hy.out (of_decide_eq_false Hq.out.symm) h.2))
        go_wp2_with fail
        go_ret
        exact ⟨ret_bool hne.out.symm, below_of⟩
      · go_wp2_with fail
        go_roundw
        case rel => exact ⟨k + 1, by omega, by go_num, fun j x' y' hj hx' hy' => by
          rcases Nat.lt_or_ge j k with h | h
          · exact Hall.out j x' y' h hx' hy'
          · have : j = k := by omega
            subst this
            have hx := Hx.out
            have hy := Hy.out
            rw [hx] at hx'; injection hx' with hx'
            rw [hy] at hy'; injection hy' with hy'
            rw [← hx', ← hy']
            exact of_decide_eq_true Hq.out.symm, hbw.trans (hbd.mono hbw.size)⟩
        case measure => simp [intOf]; omega
    · have hke : k = a.length := by omega
      subst hke
      have Hall := hide hall
      have hab := hide (show V = true by rw [HV.out]; exact decide_eq_true ⟨by first | rfl | trivial, map_ext2 Hl.out Hall.out⟩)
      clear hall
      go_wp2_with fail
      go_ret
      exact ⟨ret_bool hab.out.symm, below_of⟩
end Go.Proofs.Ytomgdkfoinojiaa
