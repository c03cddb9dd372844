/-
  Contracts of the functions of this seat that each theorem names: what a call returns, and that it writes nothing that was there before. The conditions stand in each theorem.
-/
import Derived.Test.YtgddapgdeaeggaaC23Awake
import Derived.Test.YtgddapgdeaeggaaC23List2
namespace Go.Proofs.Ytgddapgdeaeggaa
open Go.RowKit
attribute [local go_sem ↓] run_eql_id
theorem pair_ok {q : List StubE} (hs : SortedS q) (hid : (q.map idE).Nodup) {i k : Nat} {x y : StubE} (hx : q[k]? = some x) (hy : q[i]? = some y) (hki : k < i) : ideq x.iDMachine x.iDSerial y.iDMachine y.iDSerial = false ∧ ¬ (y.owner < x.owner) ∧ (x.owner = y.owner → ¬ (y.number ≤ x.number)) := by
  have h1 := List.pairwise_iff_getElem.1 hs k i (List.getElem?_eq_some_iff.1 hx).1 (List.getElem?_eq_some_iff.1 hy).1 hki
  rw [(List.getElem?_eq_some_iff.1 hx).2, (List.getElem?_eq_some_iff.1 hy).2] at h1
  refine ⟨?_, by unfold ltS at h1; omega, by unfold ltS at h1; omega⟩
  have := ideq_iff (x := x) (id := idE y)
  rw [show (idE y).machine = y.iDMachine from rfl, show (idE y).serial = y.iDSerial from rfl] at this
  rw [this]
  have hne : idE x ≠ idE y := fun e => by have := nodup_at hid hx hy e; omega
  simpa using hne
set_option maxRecDepth 100000 in
set_option maxHeartbeats 4000000 in
theorem unique_any (A : Option Addr) (C : Nat) (cs : List CallE) (w : World) (hs : SlAt CallE.cells 14 w A cs) (hl : cs.length ≤ 9223372036854775807) : Calls Try.prog 4 #[.slice A cs.length C] w fun r w' => r = .returned (.bool true) ∧ Below w.heap.size w w' := by
  have HS : ∀ u [Later w u], SlAt CallE.cells 14 u A cs := fun u i => hs.below i.below
  go_enter Try.func4, Try.ntmps4
  by_cases hlen : (30 : Int) < (cs.length : Int)
  · go_wp2_with (go_at_call 10; refine (awake_any _).mono ?_; rintro r w1 ⟨rfl, hb1⟩; have l1 := later hb1)
    go_ret
    exact ⟨rfl, below_of⟩
  have hcl : cs.length ≤ 30 := by omega
  go_wp2_with (go_at_call 10; refine (awake_any _).mono ?_; rintro r w1 ⟨rfl, hb1⟩; have l1 := later hb1)
  go_wp2_with (go_at_call 16; refine (run_any A C cs _ (HS _) (by omega)).mono ?_; rintro r w2 ⟨p, g, rfl, hp, hg, hT0, hb2⟩; have l2 := later hb2)
  obtain ⟨L, hL⟩ : ∃ L, L = runT cs := ⟨_, rfl⟩
  have hLi : Inv L := by rw [hL]; exact inv_run cs
  have hLl : L.length ≤ 30 := by have := run_len cs; rw [hL]; omega
  rw [← hL] at hT0
  clear hL
  go_wp2_with (go_at_call 12; refine (list_any p g L _ (hT0.later _) (by omega)).mono ?_; rintro r w3 ⟨q, B, D, hq, rfl, ho3, hb3⟩; have l3 := later hb3)
  have hq3 := (ho3.at_ StubE.enc).2.2
  have HQ : ∀ u [Later w3 u], SlAt StubE.cells 12 u B q := fun u i => hq3.below i.below
  have hql : q.length ≤ 30 := by rw [hq.out.1.length_eq]; exact hLl
  have hqi := hide ((hq.out.1.map idE).symm.nodup hLi.ids)
  have hqv := hide (fun e (he : e ∈ q) => hLi.valid e (hq.out.1.mem_iff.1 he))
  have hLi' := hide hLi
  clear ho3 hLi hq3
  go_loopw [5, 6] (fun iv _ wr => ∃ k : Nat, k ≤ q.length ∧ iv = .int .i64 k ∧ Below w3.heap.size w3 wr) (fun iv _ _ => q.length - (intOf iv).toNat)
  case atStart => exact ⟨0, by omega, rfl, Below.refl _ _⟩
  case round =>
    obtain ⟨i, hi, rfl, hbr⟩ := hrel
    have lr := later hbr
    by_cases hlt : i < q.length
    · obtain ⟨b1, o1, y, rfl, hy, C1⟩ := StubE.get (HQ wr) hlt
      have hvy := hide (hqv.out y (List.mem_of_getElem? hy))
      have HV : ∀ u, Calls Try.prog 17 #[y.v] u fun r w' => r = .returned (.bool true) ∧ Below u.heap.size u w' := fun u => by have := refValid_any y u; rw [hvy.out] at this; exact this
      have Hy := hide hy
      clear hy
      go_wp2_with (go_at_call 17; refine (HV _).mono ?_; rintro r w4 ⟨rfl, hb4⟩; have l4 := later hb4)
      go_loopw [6] (fun iv wr => ∃ k : Nat, k ≤ i ∧ iv = .int .i64 k ∧ Below w4.heap.size w4 wr) (fun iv _ => i - (intOf iv).toNat)
      case atStart => exact ⟨0, by omega, rfl, Below.refl _ _⟩
      case round =>
        obtain ⟨k, hk, rfl, hbs⟩ := hrel
        have ls := later hbs
        by_cases hlt2 : k < i
        · obtain ⟨b2, o2, x, hA2, hx, D1⟩ := StubE.get (HQ w3) (k := k) (by omega)
          injection hA2 with hA2
          injection hA2 with hA2 hA3
          subst hA2 hA3
          obtain ⟨q1, q2, q3⟩ := pair_ok hq.out.2 hqi.out hx Hy.out hlt2
          have hkq : (k : Int) < (q.length : Int) := by omega
          clear hx
          by_cases hoo : x.owner = y.owner
          · have q4 := q3 hoo
            have hoo' : (x.owner == y.owner) = true := by simpa using hoo
            have q4' : decide (y.number ≤ x.number) = false := by simpa using q4
            have q2' : decide (y.owner < x.owner) = false := by simpa using q2
            go_upto_region 17 with fail
            (refine wp_region_after (by kernel_rfl) (by kernel_rfl) ?_
             repeat (any_goals (first | go_big_quiet_skip | (go_big_quiet_want; go_big_quiet_op; first | go_big_quiet_on | go_big_quiet_call (fail)) | quiet_step (fail) | (refine wpQuiet_step (fun K hK => ?_); go_simp; split <;> (refine hK _ ?_; clear hK K))))
             all_goals (refine wpQuiet_nil ?_; intro _ hw'; obtain ⟨u', hw''⟩ := hw'; subst hw''; obtain ⟨wd, hbd⟩ := u'; simp only [After.val_mk]))
            all_goals (try (exfalso; omega))
            have ld := later hbd
            go_wp2_with fail
            go_roundw
            case rel => exact ⟨k + 1, by omega, by go_num, hbs.trans (below_of.mono hbs.size)⟩
            case measure => simp [intOf]; omega
          · have hoo' : (x.owner == y.owner) = false := by simpa using hoo
            have q2' : decide (y.owner < x.owner) = false := by simpa using q2
            go_upto_region 17 with fail
            (refine wp_region_after (by kernel_rfl) (by kernel_rfl) ?_
             repeat (any_goals (first | go_big_quiet_skip | (go_big_quiet_want; go_big_quiet_op; first | go_big_quiet_on | go_big_quiet_call (fail)) | quiet_step (fail) | (refine wpQuiet_step (fun K hK => ?_); go_simp; split <;> (refine hK _ ?_; clear hK K))))
             all_goals (refine wpQuiet_nil ?_; intro _ hw'; obtain ⟨u', hw''⟩ := hw'; subst hw''; obtain ⟨wd, hbd⟩ := u'; simp only [After.val_mk]))
            all_goals (try (exfalso; omega))
            have ld := later hbd
            go_wp2_with fail
            go_roundw
            case rel => exact ⟨k + 1, by omega, by go_num, hbs.trans (below_of.mono hbs.size)⟩
            case measure => simp [intOf]; omega
        · have hk' : k = i := by omega
          subst hk'
          go_wp2_with fail
          go_roundw
          case rel => exact ⟨k + 1, by omega, by go_num, below_of⟩
          case measure => simp [intOf]; omega
    · have hk' : i = q.length := by omega
      subst hk'
      go_wp2_with fail
      go_ret
      exact ⟨rfl, below_of⟩
end Go.Proofs.Ytgddapgdeaeggaa
