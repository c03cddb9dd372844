/-
  Contracts of the functions of this seat that each theorem names: what a call returns, and that it writes nothing that was there before. The conditions stand in each theorem.
-/
import Derived.Test.YtjegncmkebbdfaaGreatDoorF16Union
set_option linter.unusedSimpArgs false
set_option linter.unusedVariables false
namespace Go.Proofs.YtjegncmkebbdfaaGreatDoor
open Go.RowKit
attribute [local go_sem ↓] run_eql_id run_neq_id run_neq_ValE run_eql_ValE
attribute [local simp] heap_drew
theorem con_eq {a b : NodeC} : a = b ↔ a.id = b.id ∧ a.kind = b.kind ∧ a.clas = b.clas ∧ a.fields = b.fields := ⟨fun h => by subst h; exact ⟨rfl, rfl, rfl, rfl⟩, fun h => NodeC.ext' h.1 h.2.1 h.2.2.1 h.2.2.2⟩
set_option maxRecDepth 100000 in
set_option maxHeartbeats 4000000 in
theorem sameNode16_any (a1 a2 ak ac : Int) (aA : Option Addr) (ap : Nat) (af : List ValE) (b1 b2 bk bc : Int) (bA : Option Addr) (bp : Nat) (bf : List ValE) (w : World) (ha : SlAt ValE.cells 4 w aA af) (hb : SlAt ValE.cells 4 w bA bf) (hal : af.length ≤ 1000000000) (hbl : bf.length ≤ 1000000000) :
    Calls Tryz.prog 29 #[.agg #[.int .i64 a1, .int .i64 a2, .int .i64 ak, .int .i64 ac, .slice aA af.length ap], .agg #[.int .i64 b1, .int .i64 b2, .int .i64 bk, .int .i64 bc, .slice bA bf.length bp]] w fun r w' => r = .returned (.bool (decide ((⟨a1, a2, ak, ac, af⟩ : NodeC) = ⟨b1, b2, bk, bc, bf⟩))) ∧ Below w.heap.size w w' := by
  have HA : ∀ u [Later w u], SlAt ValE.cells 4 u aA af := fun u i => ha.below i.below
  have HB : ∀ u [Later w u], SlAt ValE.cells 4 u bA bf := fun u i => hb.below i.below
  have hal' : af.length ≤ 9223372036854775807 := by omega
  have hbl' : bf.length ≤ 9223372036854775807 := by omega
  obtain ⟨R, hR⟩ : ∃ R, R = decide ((⟨a1, a2, ak, ac, af⟩ : NodeC) = ⟨b1, b2, bk, bc, bf⟩) := ⟨_, rfl⟩
  rw [← hR]
  have HR := hide hR
  clear hR
  have hq := hide (show ideq a1 a2 b1 b2 = decide ((⟨a1, a2⟩ : IDE) = ⟨b1, b2⟩) from @ideq_iff ⟨a1, a2⟩ ⟨b1, b2⟩)
  go_enter Tryz.func29, Tryz.ntmps29
  go_upto_region 1 with fail
  refine wp_name ?_
  intro w1 hw1
  obtain ⟨B0, B1, l1⟩ := box2 hw1
  have l11 : Later w1 w1 := Later.refl
  clear hw1
  cases q1 : ideq a1 a2 b1 b2 with
  | false =>
    have hr := hide (show R = false by rw [HR.out]; exact decide_eq_false fun h => absurd (hq.out.trans (decide_eq_true (con_eq.1 h).1)) (by rw [q1]; simp))
    go_wp2_with fail
    go_ret
    exact ⟨ret_bool hr.out.symm, below_of⟩
  | true =>
    have hid : (⟨a1, a2⟩ : IDE) = ⟨b1, b2⟩ := of_decide_eq_true (by rw [← hq.out]; exact q1)
    cases q2 : (ak != bk) with
    | true =>
      have hr := hide (show R = false by rw [HR.out]; exact decide_eq_false fun h => absurd (con_eq.1 h).2.1 (by simpa using q2))
      go_wp2_with fail
      go_ret
      exact ⟨ret_bool hr.out.symm, below_of⟩
    | false =>
      have hkk : ak = bk := by simpa using q2
      cases q3 : (ac != bc) with
      | true =>
        have hr := hide (show R = false by rw [HR.out]; exact decide_eq_false fun h => absurd (con_eq.1 h).2.2.1 (by simpa using q3))
        go_wp2_with fail
        go_ret
        exact ⟨ret_bool hr.out.symm, below_of⟩
      | false =>
        have hcc : ac = bc := by simpa using q3
        by_cases hl : af.length = bf.length
        · have Hl := hide hl
          have q4 : ((af.length : Int) != (bf.length : Int)) = false := by simp [hl]
          have hRf := hide (show af = bf → R = true from fun h => by rw [HR.out]; exact decide_eq_true (con_eq.2 ⟨hid, hkk, hcc, h⟩))
          clear hl hid hkk hcc
          go_wp2_with fail
          go_loopw [5] (fun i wr => ∃ k : Nat, k ≤ af.length ∧ i = .int .i64 k ∧ (∀ (j : Nat) (x y : ValE), j < k → af[j]? = some x → bf[j]? = some y → x = y) ∧ Below w1.heap.size w1 wr) (fun i _ => af.length - (intOf i).toNat)
          case atStart => exact ⟨0, by omega, rfl, fun j _ _ h => absurd h (by omega), Below.refl _ _⟩
          case round =>
            obtain ⟨k, hk, rfl, hall, hbw⟩ := hrel
            have lr := later hbw
            have Hall := hide hall
            clear hall
            by_cases hlt : k < af.length
            · have hlt2 : k < bf.length := by rw [← Hl.out]; exact hlt
              have hki : (k : Int) < (af.length : Int) := by omega
              have hki2 : (k : Int) < (bf.length : Int) := by omega
              obtain ⟨g1, o1, x, rfl, hx, C1⟩ := ValE.get (HA wr) hlt
              obtain ⟨g2, o2, y, rfl, hy, C2⟩ := ValE.get (HB wr) hlt2
              have Hx := hide hx
              have Hy := hide hy
              clear hx hy
              go_upto_region 6 with fail
              (refine wp_region_after (by kernel_rfl) (by kernel_rfl) ?_
               repeat (any_goals (first | go_big_quiet_skip | (go_big_quiet_want; go_big_quiet_op; first | go_big_quiet_on | go_big_quiet_call (fail)) | quiet_step (fail) | (refine wpQuiet_step (fun K hK => ?_); go_simp; split <;> (refine hK _ ?_; clear hK K))))
               all_goals (refine wpQuiet_nil ?_; intro _ hw'; obtain ⟨u', hw''⟩ := hw'; subst hw''; obtain ⟨wd, hbd⟩ := u'; simp only [After.val_mk]))
              have ld := later hbd
              cases hxy : ValE.beq x y
              · have hr := hide (show R = false by
                  rw [HR.out]
                  refine decide_eq_false fun h => ?_
                  have h1 := (con_eq.1 h).2.2.2
                  dsimp only at h1
                  have h2 := Hx.out
                  rw [h1, Hy.out] at h2
                  injection h2 with h2
                  rw [ValE.beq_iff.2 h2.symm] at hxy
                  cases hxy)
                go_wp2_with fail
                go_ret
                exact ⟨ret_bool hr.out.symm, below_of⟩
              · go_wp2_with fail
                go_roundw
                case rel => exact ⟨k + 1, by omega, by go_num, fun j x' y' hj hx' hy' => by
                  rcases Nat.lt_or_ge j k with h | h
                  · exact Hall.out j x' y' h hx' hy'
                  · have : j = k := by omega
                    subst this
                    rw [Hx.out] at hx'; injection hx' with hx'
                    rw [Hy.out] at hy'; injection hy' with hy'
                    rw [← hx', ← hy']
                    exact ValE.beq_iff.1 hxy, below_of⟩
                case measure => simp [intOf]; omega
            · have hk' : k = af.length := by omega
              subst hk'
              have hr := hide (hRf.out (eq_to Hl.out fun j x y hx hy => Hall.out j x y (List.getElem?_eq_some_iff.1 hx).1 hx hy))
              go_wp2_with fail
              go_ret
              exact ⟨ret_bool hr.out.symm, below_of⟩
        · have q4 : ((af.length : Int) != (bf.length : Int)) = true := by simp; omega
          have hr := hide (show R = false by rw [HR.out]; exact decide_eq_false fun h => hl (by have h1 := (con_eq.1 h).2.2.2; dsimp only at h1; rw [h1]))
          go_wp2_with fail
          go_ret
          exact ⟨ret_bool hr.out.symm, below_of⟩
set_option maxRecDepth 100000 in
set_option maxHeartbeats 4000000 in
theorem equal16_any (A : Option Addr) (c : Nat) (a : List NodeE) (B : Option Addr) (d : Nat) (b : List NodeE) (w : World) (ha : NodesAt w A a) (hb : NodesAt w B b) (hal : a.length ≤ 1000000000) (hbl : b.length ≤ 1000000000) (haf : ∀ n ∈ a, n.fields.length ≤ 1000000000) (hbf : ∀ n ∈ b, n.fields.length ≤ 1000000000) :
    Calls Tryz.prog 10 #[.agg #[.slice A a.length c], .agg #[.slice B b.length d]] w fun r w' => r = .returned (.bool (decide (conL a = conL b))) ∧ Below w.heap.size w w' := by
  have HA := ha.later
  have HB := hb.later
  have hal' : a.length ≤ 9223372036854775807 := by omega
  have hbl' : b.length ≤ 9223372036854775807 := by omega
  obtain ⟨R, hR⟩ : ∃ R, R = decide (conL a = conL b) := ⟨_, rfl⟩
  rw [← hR]
  have HR := hide hR
  clear hR
  have hlen : ∀ l : List NodeE, (conL l).length = l.length := fun l => by unfold conL; rw [List.length_map]
  go_enter Tryz.func10, Tryz.ntmps10
  go_upto_region 1 with fail
  refine wp_name ?_
  intro w1 hw1
  obtain ⟨B0, B1, l1⟩ := box2 hw1
  have l11 : Later w1 w1 := Later.refl
  clear hw1
  by_cases hl : a.length = b.length
  rotate_left
  · have q1 : ((a.length : Int) != (b.length : Int)) = true := by simp; omega
    have hr := hide (show R = false by rw [HR.out]; exact decide_eq_false fun h => hl (by rw [← hlen a, h, hlen]))
    clear hl
    go_wp2_with fail
    go_ret
    exact ⟨ret_bool hr.out.symm, below_of⟩
  have Hl := hide hl
  have q1 : ((a.length : Int) != (b.length : Int)) = false := by simp [hl]
  clear hl
  go_wp2_with fail
  go_loopw [5] (fun i wr => ∃ k : Nat, k ≤ a.length ∧ i = .int .i64 k ∧ Hid (∀ (j : Nat) (x y : NodeE), j < k → a[j]? = some x → b[j]? = some y → x.con = y.con) ∧ Below w1.heap.size w1 wr) (fun i _ => a.length - (intOf i).toNat)
  case atStart => exact ⟨0, by omega, rfl, hide fun j _ _ h => absurd h (by omega), Below.refl _ _⟩
  case round =>
    obtain ⟨k, hk, rfl, Hall, hbw⟩ := hrel
    have lr := later hbw
    by_cases hlt : k < a.length
    · have hlt2 : k < b.length := by rw [← Hl.out]; exact hlt
      have hki : (k : Int) < (a.length : Int) := by omega
      have hki2 : (k : Int) < (b.length : Int) := by omega
      obtain ⟨g1, o1, x, rfl, hx, C1, F1, -, -⟩ := (HA wr).get hlt
      obtain ⟨g2, o2, y, rfl, hy, C2, F2, -, -⟩ := (HB wr).get hlt2
      have hxf := haf x (List.mem_of_getElem? hx)
      have hyf := hbf y (List.mem_of_getElem? hy)
      have Hx := hide hx
      have Hy := hide hy
      have HS : ∀ u [Later wr u], Calls Tryz.prog 29 #[x.v, y.v] u fun r w' => r = .returned (.bool (decide (x.con = y.con))) ∧ Below u.heap.size u w' := fun u i => sameNode16_any x.iDMachine x.iDSerial x.kind x.clas x.A x.c x.fields y.iDMachine y.iDSerial y.kind y.clas y.A y.c y.fields u (F1 u) (F2 u) hxf hyf
      clear hx hy
      cases hxy : decide (x.con = y.con) <;> simp only [hxy] at HS
      · have hr := hide (show R = false by
          rw [HR.out]
          refine decide_eq_false fun h => of_decide_eq_false hxy ?_
          have h1 : (conL a)[k]? = some x.con := by unfold conL; rw [List.getElem?_map, Hx.out]; rfl
          have h2 : (conL b)[k]? = some y.con := by unfold conL; rw [List.getElem?_map, Hy.out]; rfl
          rw [h, h2] at h1
          injection h1 with h1
          exact h1.symm)
        clear hxy
        go_upto_region 6 with fail
        (refine wp_region_after (by kernel_rfl) (by kernel_rfl) ?_
         repeat (any_goals (first | go_big_quiet_skip | (go_big_quiet_want; go_big_quiet_op; first | go_big_quiet_on | go_big_quiet_call ((go_at_call 29; exact Calls.after (HS _)))) | quiet_step ((go_at_call 29; exact Calls.after (HS _))) | (refine wpQuiet_step (fun K hK => ?_); go_simp; split <;> (refine hK _ ?_; clear hK K))))
         all_goals (refine wpQuiet_nil ?_; intro _ hw'; obtain ⟨u', hw''⟩ := hw'; subst hw''; obtain ⟨wd, hbd⟩ := u'; simp only [After.val_mk]))
        have ld := later hbd
        go_wp2_with fail
        go_ret
        exact ⟨ret_bool hr.out.symm, below_of⟩
      · have Hxy := hide (of_decide_eq_true hxy)
        clear hxy
        go_upto_region 6 with fail
        (refine wp_region_after (by kernel_rfl) (by kernel_rfl) ?_
         repeat (any_goals (first | go_big_quiet_skip | (go_big_quiet_want; go_big_quiet_op; first | go_big_quiet_on | go_big_quiet_call ((go_at_call 29; exact Calls.after (HS _)))) | quiet_step ((go_at_call 29; exact Calls.after (HS _))) | (refine wpQuiet_step (fun K hK => ?_); go_simp; split <;> (refine hK _ ?_; clear hK K))))
         all_goals (refine wpQuiet_nil ?_; intro _ hw'; obtain ⟨u', hw''⟩ := hw'; subst hw''; obtain ⟨wd, hbd⟩ := u'; simp only [After.val_mk]))
        have ld := later hbd
        go_wp2_with fail
        go_roundw
        case rel => exact ⟨k + 1, by omega, by go_num, hide fun j x' y' hj hx' hy' => by
          rcases Nat.lt_or_ge j k with h | h
          · exact Hall.out j x' y' h hx' hy'
          · have : j = k := by omega
            subst this
            rw [Hx.out] at hx'; injection hx' with hx'
            rw [Hy.out] at hy'; injection hy' with hy'
            rw [← hx', ← hy']
            exact Hxy.out, below_of⟩
        case measure => simp [intOf]; omega
    · have hk' : k = a.length := by omega
      subst hk'
      have hr := hide (show R = true by
        rw [HR.out]
        refine decide_eq_true (eq_to (by rw [hlen, hlen]; exact Hl.out) fun j x y hx hy => ?_)
        unfold conL at hx hy
        rw [List.getElem?_map] at hx hy
        obtain ⟨x', hx1, hx2⟩ := Option.map_eq_some_iff.1 hx
        obtain ⟨y', hy1, hy2⟩ := Option.map_eq_some_iff.1 hy
        rw [← hx2, ← hy2]
        exact Hall.out j x' y' (List.getElem?_eq_some_iff.1 hx1).1 hx1 hy1)
      go_wp2_with fail
      go_ret
      exact ⟨ret_bool hr.out.symm, below_of⟩
end Go.Proofs.YtjegncmkebbdfaaGreatDoor
