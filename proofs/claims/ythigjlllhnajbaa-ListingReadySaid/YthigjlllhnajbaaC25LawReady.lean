/-
  Contracts of the functions of this seat that each theorem names: what a call returns, and that it writes nothing that was there before. The conditions stand in each theorem.
-/
import Derived.Test.YthigjlllhnajbaaC25Awake
import Derived.Test.YthigjlllhnajbaaC25Open
namespace Go.Proofs.Ythigjlllhnajbaa
open Go.RowKit
set_option maxRecDepth 100000 in
set_option maxHeartbeats 2000000 in
theorem lawReady_any' (R S C : Int) (A : Option Addr) (c : Nat) (es : List ListedE) (m n : Int) (w : World) (hs : SlAt ListedE.cells 3 w A es) (hl : es.length ≤ 1000000000000000) :
    Calls Try.prog 6 #[.agg #[.int .i64 R, .int .i64 S, .int .i64 C, .slice A es.length c], .int .i64 m, .int .i64 n] w fun r w' => r = .returned (.bool true) ∧ Below w.heap.size w w' := by
  have HL : ∀ u [Later w u], ListV.at_ ⟨R, S, C, A, c, es⟩ u := fun u i => ⟨hs.below i.below, hl⟩
  have HV : ∀ u [Later w u], Calls Try.prog 15 #[.agg #[.int .i64 R, .int .i64 S, .int .i64 C, .slice A es.length c]] u fun r w' => r = .returned (.bool (validB ⟨R, S, C, A, c, es⟩)) ∧ Below u.heap.size u w' := fun u i => valid_any ⟨R, S, C, A, c, es⟩ u (HL u)
  have HV' : ∀ u [Later w u], Calls Try.prog 20 #[.agg #[.int .i64 R, .int .i64 S, .int .i64 C, .slice A es.length c]] u fun r w' => r = .returned (.bool (validB ⟨R, S, C, A, c, es⟩)) ∧ Below u.heap.size u w' := fun u i => refValid_any ⟨R, S, C, A, c, es⟩ u (HL u)
  have HR : ∀ u [Later w u], Calls Try.prog 21 #[.agg #[.int .i64 R, .int .i64 S, .int .i64 C, .slice A es.length c], .int .i64 m, .int .i64 n] u fun r w' => r = .returned (.bool (readyB ⟨R, S, C, A, c, es⟩ m n)) ∧ Below u.heap.size u w' := fun u i => ready_any ⟨R, S, C, A, c, es⟩ m n u (HL u)
  have HR' : ∀ u [Later w u], Calls Try.prog 22 #[.agg #[.int .i64 R, .int .i64 S, .int .i64 C, .slice A es.length c], .int .i64 m, .int .i64 n] u fun r w' => r = .returned (.bool (readyB ⟨R, S, C, A, c, es⟩ m n)) ∧ Below u.heap.size u w' := fun u i => refReady_any ⟨R, S, C, A, c, es⟩ m n u (HL u)
  clear HL hs
  generalize validB ⟨R, S, C, A, c, es⟩ = V at HV HV'
  generalize readyB ⟨R, S, C, A, c, es⟩ m n = Y at HR HR'
  go_enter Try.func6, Try.ntmps6
  go_upto_region 1 with fail
  refine wp_name ?_
  intro w0 hw0
  obtain ⟨B0, l0⟩ := box1 hw0
  clear hw0
  go_wp2_with (go_at_call 11; refine (awake_any _).mono ?_)
  rintro r w1 ⟨rfl, hb1⟩
  have l1 := later hb1
  by_cases hn : 30 < es.length
  · have hn' : (30 : Int) < (es.length : Int) := by omega
    go_wp2_with (go_at_call 11; refine (awake_any _).mono ?_)
    rintro r w2 ⟨rfl, hb2⟩
    have l2 := later hb2
    go_wp2_with fail
    go_ret
    exact ⟨rfl, below_of⟩
  · have hn' : decide ((30 : Int) < (es.length : Int)) = false := by simp; omega
    go_upto_region 3 with fail
    (refine wp_region_after (by kernel_rfl) (by kernel_rfl) ?_
     repeat (any_goals (first | go_big_quiet_skip | (go_big_quiet_want; go_big_quiet_op; first | go_big_quiet_on | go_big_quiet_call ((first | (go_at_call 15; exact Calls.after (HV _)) | (go_at_call 20; exact Calls.after (HV' _)) | (go_at_call 21; exact Calls.after (HR _)) | (go_at_call 22; exact Calls.after (HR' _))))) | quiet_step ((first | (go_at_call 15; exact Calls.after (HV _)) | (go_at_call 20; exact Calls.after (HV' _)) | (go_at_call 21; exact Calls.after (HR _)) | (go_at_call 22; exact Calls.after (HR' _)))) | (refine wpQuiet_step (fun K hK => ?_); go_simp; split <;> (refine hK _ ?_; clear hK K))))
     all_goals (refine wpQuiet_nil ?_; intro _ hw'; obtain ⟨u', hw''⟩ := hw'; subst hw''; obtain ⟨wd, hbd⟩ := u'; simp only [After.val_mk]))
    have ld := later hbd
    go_wp2_with fail
    go_ret
    exact ⟨ret_bool (by simp), below_of⟩
theorem lawReady_any (L : ListV) (m n : Int) (w : World) (hL : L.in_ w) :
    Calls Try.prog 6 #[L.v, .int .i64 m, .int .i64 n] w fun r w' => r = .returned (.bool true) ∧ Below w.heap.size w w' :=
  lawReady_any' L.round L.sent L.received L.A L.c L.entries m n w hL.at_.s hL.at_.sl
end Go.Proofs.Ythigjlllhnajbaa
