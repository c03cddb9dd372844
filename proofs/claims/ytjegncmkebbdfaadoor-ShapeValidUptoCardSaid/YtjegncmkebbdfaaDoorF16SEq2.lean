/-
  Contracts of the functions of this seat that each theorem names: what a call returns, and that it writes nothing that was there before. The conditions stand in each theorem.
-/
import Derived.Test.YtjegncmkebbdfaaDoorF16SEq
set_option linter.unusedSimpArgs false
set_option linter.unusedVariables false
namespace Go.Proofs.YtjegncmkebbdfaaDoor
open Go.RowKit
attribute [local go_sem ↓] run_eql_id run_neq_id
attribute [local simp] heap_drew
set_option maxRecDepth 100000 in
set_option maxHeartbeats 4000000 in
theorem equalF_any (A : Option Addr) (c : Nat) (a : List NodeE) (B : Option Addr) (d : Nat) (b : List NodeE) (w : World) (ha : NodesAt w A a) (hb : NodesAt w B b) (hal : a.length ≤ 1000000000) (hbl : b.length ≤ 1000000000) (haf : ∀ n ∈ a, n.fields.length ≤ 1000000000) (hbf : ∀ n ∈ b, n.fields.length ≤ 1000000000) :
    Calls Tryd.prog 42 #[.slice A a.length c, .slice B b.length d, .func (.func 43) #[] #[]] w fun r w' => r = .returned (.bool (decide (conL a = conL b))) ∧ Below w.heap.size w w' := by
  have HA := ha.later
  have HB := hb.later
  have hal' : a.length ≤ 9223372036854775807 := by omega
  have hbl' : b.length ≤ 9223372036854775807 := by omega
  have lww : Later w w := Later.refl
  obtain ⟨R, hR⟩ : ∃ R, R = decide (conL a = conL b) := ⟨_, rfl⟩
  rw [← hR]
  have HR := hide hR
  clear hR
  have hlen : ∀ l : List NodeE, (conL l).length = l.length := fun l => by unfold conL; rw [List.length_map]
  go_enter Tryd.func42, Tryd.ntmps42
  by_cases hl : a.length = b.length
  rotate_left
  · have q1 : ((a.length : Int) != (b.length : Int)) = true := by simp; omega
    have hr := hide (show R = false by rw [HR.out]; exact decide_eq_false fun h => hl (by rw [← hlen a, h, hlen]))
    clear hl
    go_wp2_with fail
    go_ret
    exact ⟨ret_bool hr.out.symm, below_of⟩
  have Hl := hide hl
  have q1 : ((a.length : Int) != (b.length : Int)) = false := by simp [hl]
  clear hl
  go_wp2_with fail
  go_loopw [7, 17] (fun _ i wr => ∃ k : Nat, k ≤ a.length ∧ i = .int .i64 k ∧ Hid (∀ (j : Nat) (x y : NodeE), j < k → a[j]? = some x → b[j]? = some y → x.con = y.con) ∧ Below w.heap.size w wr) (fun _ i _ => a.length - (intOf i).toNat)
  case atStart => exact ⟨0, by omega, rfl, hide fun j _ _ h => absurd h (by omega), Below.refl _ _⟩
  case round =>
    obtain ⟨k, hk, rfl, Hall, hbw⟩ := hrel
    have lr := later hbw
    have lrr : Later wr wr := Later.refl
    by_cases hlt : k < a.length
    · have hlt2 : k < b.length := by rw [← Hl.out]; exact hlt
      have hki : (k : Int) < (a.length : Int) := by omega
      have hki2 : (k : Int) < (b.length : Int) := by omega
      obtain ⟨g1, o1, x, rfl, hx, C1, F1, -, -⟩ := (HA wr).get hlt
      obtain ⟨g2, o2, y, rfl, hy, C2, F2, -, -⟩ := (HB wr).get hlt2
      have hxf := haf x (List.mem_of_getElem? hx)
      have hyf := hbf y (List.mem_of_getElem? hy)
      have Hx := hide hx
      have Hy := hide hy
      have HS : ∀ u [Later wr u], Calls Tryd.prog 43 #[.agg #[.int .i64 x.iDMachine, .int .i64 x.iDSerial, .int .i64 x.kind, .int .i64 x.clas, .slice x.A x.fields.length x.c], .agg #[.int .i64 y.iDMachine, .int .i64 y.iDSerial, .int .i64 y.kind, .int .i64 y.clas, .slice y.A y.fields.length y.c]] u fun r w' => r = .returned (.bool (decide (x.con = y.con))) ∧ Below u.heap.size u w' := fun u i => sameNodeS_any x.iDMachine x.iDSerial x.kind x.clas x.A x.c x.fields y.iDMachine y.iDSerial y.kind y.clas y.A y.c y.fields u (F1 u) (F2 u) hxf hyf
      generalize x.A = xA at C1 HS
      generalize y.A = yA at C2 HS
      clear hx hy F1 F2
      go_upto_region 7 with fail
      refine wp_name ?_
      intro w2 hw2
      obtain ⟨B0, B1, l2⟩ := box2 hw2
      have l22 : Later w2 w2 := Later.refl
      clear hw2
      cases hxy : decide (x.con = y.con) <;> simp only [hxy] at HS
      · have hr := hide (show R = false by
          rw [HR.out]
          refine decide_eq_false fun h => of_decide_eq_false hxy ?_
          have h1 : (conL a)[k]? = some x.con := by unfold conL; rw [List.getElem?_map, Hx.out]; rfl
          have h2 : (conL b)[k]? = some y.con := by unfold conL; rw [List.getElem?_map, Hy.out]; rfl
          rw [h, h2] at h1
          injection h1 with h1
          exact h1.symm)
        clear hxy
        go_wp2_with (go_at_call 43; refine (HS _).mono ?_; rintro r w3 ⟨rfl, hb3⟩; have l3 := later hb3)
        go_ret
        exact ⟨ret_bool hr.out.symm, below_of⟩
      · have Hxy := hide (of_decide_eq_true hxy)
        clear hxy
        go_wp2_with (go_at_call 43; refine (HS _).mono ?_; rintro r w3 ⟨rfl, hb3⟩; have l3 := later hb3)
        go_roundw
        case rel => exact ⟨k + 1, by omega, by go_num, hide fun j x' y' hj hx' hy' => by
          rcases Nat.lt_or_ge j k with h | h
          · exact Hall.out j x' y' h hx' hy'
          · have : j = k := by omega
            subst this
            rw [Hx.out] at hx'; injection hx' with hx'
            rw [Hy.out] at hy'; injection hy' with hy'
            rw [← hx', ← hy']
            exact Hxy.out, below_of⟩
        case measure => simp [intOf]; omega
    · have hk' : k = a.length := by omega
      subst hk'
      have hr := hide (show R = true by
        rw [HR.out]
        refine decide_eq_true (eq_to (by rw [hlen, hlen]; exact Hl.out) fun j x y hx hy => ?_)
        unfold conL at hx hy
        rw [List.getElem?_map] at hx hy
        obtain ⟨x', hx1, hx2⟩ := Option.map_eq_some_iff.1 hx
        obtain ⟨y', hy1, hy2⟩ := Option.map_eq_some_iff.1 hy
        rw [← hx2, ← hy2]
        exact Hall.out j x' y' (List.getElem?_eq_some_iff.1 hx1).1 hx1 hy1)
      go_wp2_with fail
      go_ret
      exact ⟨ret_bool hr.out.symm, below_of⟩
theorem equalS_any (A : Option Addr) (c : Nat) (a : List NodeE) (B : Option Addr) (d : Nat) (b : List NodeE) (w : World) (ha : NodesAt w A a) (hb : NodesAt w B b) (hal : a.length ≤ 1000000000) (hbl : b.length ≤ 1000000000) (haf : ∀ n ∈ a, n.fields.length ≤ 1000000000) (hbf : ∀ n ∈ b, n.fields.length ≤ 1000000000) :
    Calls Tryd.prog 22 #[.agg #[.slice A a.length c], .agg #[.slice B b.length d]] w fun r w' => r = .returned (.bool (decide (conL a = conL b))) ∧ Below w.heap.size w w' := by
  have HE : ∀ u [Later w u], Calls Tryd.prog 42 #[.slice A a.length c, .slice B b.length d, .func (.func 43) #[] #[]] u fun r w' => r = .returned (.bool (decide (conL a = conL b))) ∧ Below u.heap.size u w' := fun u i => equalF_any A c a B d b u (ha.below i.below) (hb.below i.below) hal hbl haf hbf
  generalize decide (conL a = conL b) = e at HE ⊢
  go_enter Tryd.func22, Tryd.ntmps22
  go_upto_region 1 with fail
  refine wp_name ?_
  intro w1 hw1
  obtain ⟨B0, B1, l1⟩ := box2 hw1
  have l11 : Later w1 w1 := Later.refl
  clear hw1
  go_wp2_with (go_at_call 42; refine (HE _).mono ?_; rintro r w2 ⟨rfl, hb2⟩; have l2 := later hb2)
  go_ret
  exact ⟨rfl, below_of⟩
end Go.Proofs.YtjegncmkebbdfaaDoor
