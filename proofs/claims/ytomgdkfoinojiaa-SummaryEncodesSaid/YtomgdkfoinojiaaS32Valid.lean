/-
  Contracts of the functions of this seat that each theorem names: what a call returns, and that it writes nothing that was there before. The conditions stand in each theorem.
-/
import Derived.Test.YtomgdkfoinojiaaS32Cmp
import Derived.Test.YtomgdkfoinojiaaGrpT
set_option linter.unusedSimpArgs false
set_option linter.unusedVariables false
namespace Go.Proofs.Ytomgdkfoinojiaa
open Go.RowKit
attribute [local simp] heap_drew
def machB (n : Int) : Bool := decide (1 ≤ n) && decide (n ≤ 8)
/-- An entry of an inset, behind the one before it. -/
def okIn (il : List InsetE) (k : Nat) : Bool :=
  match il[k]? with
  | none => true
  | some y => machB y.client && decide (0 ≤ y.out) && (match k with
    | 0 => true
    | j + 1 => match il[j]? with
      | none => true
      | some p => decide (lexN p.client p.number y.client y.number))
def insOk (il : List InsetE) : Bool := (List.range il.length).all (okIn il)
def okS (x : SumC) : Bool := machB x.owner && decide (1 ≤ x.distance) && decide (x.distance ≤ 1048576) && (!x.rooted || decide (x.distance = 1)) && decide (x.inset.length ≤ 1024) && insOk x.inset
/-- A stub's summary, behind the one before it. -/
def okAt (l : List SumC) (k : Nat) : Bool :=
  match l[k]? with
  | none => true
  | some x => okS x && (match k with
    | 0 => true
    | j + 1 => match l[j]? with
      | none => true
      | some p => decide (lexN p.owner p.number x.owner x.number))
def validS (ep : Int) (l : List SumC) : Bool := decide (0 ≤ ep) && decide (l.length ≤ 1024) && (List.range l.length).all (okAt l)
theorem range_bad {p : Nat → Bool} {n k : Nat} (hk : k < n) (h : p k = false) : (List.range n).all p = false :=
  List.all_eq_false.2 ⟨k, List.mem_range.2 hk, by rw [h]; simp⟩
theorem range_all {p : Nat → Bool} {n : Nat} (h : ∀ k, k < n → p k = true) : (List.range n).all p = true :=
  List.all_eq_true.2 fun k hk => h k (List.mem_range.1 hk)
theorem upto_succ {p : Nat → Bool} {k : Nat} (h : ∀ j, j < k → p j = true) (hk : p k = true) : ∀ j, j < k + 1 → p j = true := fun j hj => by
  rcases Nat.lt_or_ge j k with h1 | h1
  · exact h j h1
  · have : j = k := by omega
    rw [this]; exact hk
theorem validS_bad {ep : Int} {l : List SumC} {k : Nat} (hk : k < l.length) (h : okAt l k = false) : validS ep l = false := by
  unfold validS
  rw [range_bad hk h, Bool.and_false]
theorem okAt_bad {l : List SumC} {k : Nat} {x : SumC} (hx : l[k]? = some x) (h : okS x = false) : okAt l k = false := by
  unfold okAt; rw [hx]; dsimp only; rw [h]; rfl
theorem okS_ins {x : SumC} (h : insOk x.inset = false) : okS x = false := by unfold okS; rw [h, Bool.and_false]
theorem conS_get {l : List SumE} {k : Nat} {x : SumE} (hx : l[k]? = some x) : (l.map SumE.con)[k]? = some x.con := by rw [List.getElem?_map, hx]; rfl
theorem machine_any (n : Int) (w : World) : Calls Try.prog 46 #[.int .i64 n] w fun r w' => r = .returned (.bool (machB n)) ∧ Below w.heap.size w w' := by
  by_cases h1 : 1 ≤ n
  · by_cases h2 : n ≤ 8
    · have HV := hide (show machB n = true by simp [machB, h1, h2])
      go_enter Try.func46, Try.ntmps46
      go_wp2_with fail
      go_ret
      exact ⟨ret_bool HV.out.symm, below_of⟩
    · have HV := hide (show machB n = false by simp [machB, h2])
      go_enter Try.func46, Try.ntmps46
      go_wp2_with fail
      go_ret
      exact ⟨ret_bool HV.out.symm, below_of⟩
  · have HV := hide (show machB n = false by simp [machB, h1])
    go_enter Try.func46, Try.ntmps46
    go_wp2_with fail
    go_ret
    exact ⟨ret_bool HV.out.symm, below_of⟩
set_option maxRecDepth 100000 in
set_option maxHeartbeats 16000000 in
theorem valid_any (ep : Int) (A : Option Addr) (c : Nat) (l : List SumE) (w : World) (H : SumsAt w A l) (hl : l.length ≤ 9223372036854775807) (hil : ∀ x ∈ l, x.inset.length ≤ 9223372036854775807) : Calls Try.prog 22 #[.agg #[.int .i64 ep, .slice A l.length c]] w fun r w' => r = .returned (.bool (validS ep (l.map SumE.con))) ∧ Below w.heap.size w w' := by
  have HL := H.later
  obtain ⟨R, hR⟩ : ∃ R, R = validS ep (l.map SumE.con) := ⟨_, rfl⟩
  rw [← hR]
  have HR := hide hR
  clear hR
  have hlc : (l.map SumE.con).length = l.length := List.length_map ..
  go_enter Try.func22, Try.ntmps22
  go_upto_region 1 with fail
  refine wp_name ?_
  intro w0 hw0
  obtain ⟨B0, l0⟩ := box1 hw0
  clear hw0
  by_cases hep : ep < 0
  · have hbad := hide (show R = false by rw [HR.out]; unfold validS; rw [decide_eq_false (by omega : ¬ 0 ≤ ep)]; rfl)
    go_wp2_with fail
    go_ret
    exact ⟨ret_bool hbad.out.symm, below_of⟩
  by_cases hbig : (1024 : Int) < (l.length : Int)
  · have hbad := hide (show R = false by rw [HR.out]; unfold validS; rw [hlc, decide_eq_false (by omega : ¬ l.length ≤ 1024), Bool.and_false]; rfl)
    go_wp2_with fail
    go_ret
    exact ⟨ret_bool hbad.out.symm, below_of⟩
  have HLC := hide hlc
  clear hlc
  go_wp2_with fail
  go_loopw [19] (fun iv wr => ∃ k : Nat, k ≤ l.length ∧ iv = .int .i64 k ∧ Hid (∀ j, j < k → okAt (l.map SumE.con) j = true) ∧ Below w0.heap.size w0 wr) (fun iv _ => l.length - (intOf iv).toNat)
  case atStart => exact ⟨0, by omega, rfl, hide (fun j h => absurd h (by omega)), Below.refl _ _⟩
  case round =>
    obtain ⟨k, hk, rfl, Hno, hbr⟩ := hrel
    have lr := later hbr
    by_cases hlt : k < l.length
    · have hki : (k : Int) < (l.length : Int) := by omega
      obtain ⟨b1, o1, x, rfl, hx, C1, F1, hx1, hx2⟩ := (HL wr).get hlt
      have hxi := hil x (List.mem_of_getElem? hx)
      have hcx := conS_get hx
      obtain ⟨xo, xn, xr, xd, xA, xc, xi⟩ := x
      dsimp only [SumE.con] at C1 F1 hx1 hx2 hxi hcx
      have HM : ∀ u, Calls Try.prog 46 #[.int .i64 xo] u fun r w' => r = .returned (.bool (machB xo)) ∧ Below u.heap.size u w' := fun u => machine_any xo u
      have hbadS : okS ⟨xo, xn, xr, xd, xi⟩ = false → Hid (R = false) := fun h => hide (by rw [HR.out]; exact validS_bad (by rw [HLC.out]; exact hlt) (okAt_bad hcx h))
      have hbadA : insOk xi = false → validS ep (l.map SumE.con) = false := fun h => validS_bad (by rw [HLC.out]; exact hlt) (okAt_bad hcx (okS_ins h))
      cases hmo : machB xo <;> simp only [hmo] at HM
      · have hbad := hbadS (by unfold okS; rw [hmo]; rfl)
        clear hcx hmo hx
        go_upto_region 6 with fail
        refine wp_name ?_
        intro w1 hw1
        obtain ⟨B4, l1⟩ := box1 hw1
        clear hw1
        have l11 : Later w1 w1 := Later.refl
        (refine wp_region_after (by kernel_rfl) (by kernel_rfl) ?_
         repeat (any_goals (first | go_big_quiet_skip | (go_big_quiet_want; go_big_quiet_op; first | go_big_quiet_on | go_big_quiet_call ((first | (go_at_call 46; exact Calls.after (HM _)) | (go_at_call 47; exact Calls.after (HC _ _ _))))) | quiet_step ((first | (go_at_call 46; exact Calls.after (HM _)) | (go_at_call 47; exact Calls.after (HC _ _ _)))) | (refine wpQuiet_step (fun K hK => ?_); go_simp; split <;> (refine hK _ ?_; clear hK K))))
         all_goals (refine wpQuiet_nil ?_; intro _ hw'; obtain ⟨u', hw''⟩ := hw'; subst hw''; obtain ⟨wd, hbd⟩ := u'; simp only [After.val_mk]))
        have ld := later hbd
        go_wp2_with fail
        go_ret
        exact ⟨ret_bool hbad.out.symm, below_of⟩
      by_cases hd1 : xd < 1
      · have hbad := hbadS (by unfold okS; dsimp only; rw [decide_eq_false (by omega : ¬ 1 ≤ xd), Bool.and_false]; rfl)
        clear hcx hmo hx
        go_upto_region 6 with fail
        refine wp_name ?_
        intro w1 hw1
        obtain ⟨B4, l1⟩ := box1 hw1
        clear hw1
        have l11 : Later w1 w1 := Later.refl
        (refine wp_region_after (by kernel_rfl) (by kernel_rfl) ?_
         repeat (any_goals (first | go_big_quiet_skip | (go_big_quiet_want; go_big_quiet_op; first | go_big_quiet_on | go_big_quiet_call ((first | (go_at_call 46; exact Calls.after (HM _)) | (go_at_call 47; exact Calls.after (HC _ _ _))))) | quiet_step ((first | (go_at_call 46; exact Calls.after (HM _)) | (go_at_call 47; exact Calls.after (HC _ _ _)))) | (refine wpQuiet_step (fun K hK => ?_); go_simp; split <;> (refine hK _ ?_; clear hK K))))
         all_goals (refine wpQuiet_nil ?_; intro _ hw'; obtain ⟨u', hw''⟩ := hw'; subst hw''; obtain ⟨wd, hbd⟩ := u'; simp only [After.val_mk]))
        have ld := later hbd
        go_wp2_with fail
        go_ret
        exact ⟨ret_bool hbad.out.symm, below_of⟩
      by_cases hd2 : 1048576 < xd
      · have hbad := hbadS (by unfold okS; dsimp only; rw [decide_eq_false (by omega : ¬ xd ≤ 1048576), Bool.and_false]; rfl)
        clear hcx hmo hx
        go_upto_region 6 with fail
        refine wp_name ?_
        intro w1 hw1
        obtain ⟨B4, l1⟩ := box1 hw1
        clear hw1
        have l11 : Later w1 w1 := Later.refl
        (refine wp_region_after (by kernel_rfl) (by kernel_rfl) ?_
         repeat (any_goals (first | go_big_quiet_skip | (go_big_quiet_want; go_big_quiet_op; first | go_big_quiet_on | go_big_quiet_call ((first | (go_at_call 46; exact Calls.after (HM _)) | (go_at_call 47; exact Calls.after (HC _ _ _))))) | quiet_step ((first | (go_at_call 46; exact Calls.after (HM _)) | (go_at_call 47; exact Calls.after (HC _ _ _)))) | (refine wpQuiet_step (fun K hK => ?_); go_simp; split <;> (refine hK _ ?_; clear hK K))))
         all_goals (refine wpQuiet_nil ?_; intro _ hw'; obtain ⟨u', hw''⟩ := hw'; subst hw''; obtain ⟨wd, hbd⟩ := u'; simp only [After.val_mk]))
        have ld := later hbd
        go_wp2_with fail
        go_ret
        exact ⟨ret_bool hbad.out.symm, below_of⟩
      cases xr
      · have hS : insOk xi = true → xi.length ≤ 1024 → okS ⟨xo, xn, false, xd, xi⟩ = true := fun h h2 => by unfold okS; dsimp only; rw [hmo, decide_eq_true (by omega : 1 ≤ xd), decide_eq_true (by omega : xd ≤ 1048576), h, decide_eq_true h2]; rfl
        by_cases hd5 : (1024 : Int) < (xi.length : Int)
        · have hbad := hbadS (by unfold okS; dsimp only; rw [decide_eq_false (by omega : ¬ xi.length ≤ 1024)]; simp)
          clear hcx hmo hx hS
          go_upto_region 6 with fail
          refine wp_name ?_
          intro w1 hw1
          obtain ⟨B4, l1⟩ := box1 hw1
          clear hw1
          have l11 : Later w1 w1 := Later.refl
          (refine wp_region_after (by kernel_rfl) (by kernel_rfl) ?_
           repeat (any_goals (first | go_big_quiet_skip | (go_big_quiet_want; go_big_quiet_op; first | go_big_quiet_on | go_big_quiet_call ((first | (go_at_call 46; exact Calls.after (HM _)) | (go_at_call 47; exact Calls.after (HC _ _ _))))) | quiet_step ((first | (go_at_call 46; exact Calls.after (HM _)) | (go_at_call 47; exact Calls.after (HC _ _ _)))) | (refine wpQuiet_step (fun K hK => ?_); go_simp; split <;> (refine hK _ ?_; clear hK K))))
           all_goals (refine wpQuiet_nil ?_; intro _ hw'; obtain ⟨u', hw''⟩ := hw'; subst hw''; obtain ⟨wd, hbd⟩ := u'; simp only [After.val_mk]))
          have ld := later hbd
          go_wp2_with fail
          go_ret
          exact ⟨ret_bool hbad.out.symm, below_of⟩
        have hS2 := fun h => hS h (by omega)
        rcases k with _ | j
        · have hokA : insOk xi = true → okAt (l.map SumE.con) 0 = true := fun h => by unfold okAt; rw [hcx]; dsimp only; rw [hS2 h]; rfl
          simp only [Nat.zero_mul, Nat.add_zero] at C1
          have hki : (0 : Int) < (l.length : Int) := by omega
          clear hcx hmo hx hS hS2
          go_upto_region 6 with fail
          refine wp_name ?_
          intro w1 hw1
          obtain ⟨B4, l1⟩ := box1 hw1
          clear hw1
          have l11 : Later w1 w1 := Later.refl
          (refine wp_region_after (by kernel_rfl) (by kernel_rfl) ?_
           repeat (any_goals (first | go_big_quiet_skip | (go_big_quiet_want; go_big_quiet_op; first | go_big_quiet_on | go_big_quiet_call ((first | (go_at_call 46; exact Calls.after (HM _)) | (go_at_call 47; exact Calls.after (HC _ _ _))))) | quiet_step ((first | (go_at_call 46; exact Calls.after (HM _)) | (go_at_call 47; exact Calls.after (HC _ _ _)))) | (refine wpQuiet_step (fun K hK => ?_); go_simp; split <;> (refine hK _ ?_; clear hK K))))
           all_goals (refine wpQuiet_nil ?_; intro _ hw'; obtain ⟨u', hw''⟩ := hw'; subst hw''; obtain ⟨wd, hbd⟩ := u'; simp only [After.val_mk]))
          have ld := later hbd
          have ldd : Later wd wd := Later.refl
          go_wp2_with fail
          go_loopw [71] (fun iv wr => ∃ m : Nat, m ≤ xi.length ∧ iv = .int .i64 m ∧ Hid (∀ j, j < m → okIn xi j = true) ∧ Below wd.heap.size wd wr) (fun iv _ => xi.length - (intOf iv).toNat)
          case atStart => exact ⟨0, by omega, rfl, hide (fun j h => absurd h (by omega)), Below.refl _ _⟩
          case round =>
            obtain ⟨m, hm, rfl, hino, hbm⟩ := hrel
            have lm := later hbm
            by_cases hml : m < xi.length
            · have hmi : (m : Int) < (xi.length : Int) := by omega
              obtain ⟨b3, o3, y, rfl, hy, C3⟩ := InsetE.get (F1 wr) hml
              obtain ⟨yc, yn, yo⟩ := y
              have HM2 : ∀ u, Calls Try.prog 46 #[.int .i64 yc] u fun r w' => r = .returned (.bool (machB yc)) ∧ Below u.heap.size u w' := fun u => machine_any yc u
              have hbadI : okIn xi m = false → Hid (R = false) := fun h => hide (by rw [HR.out]; exact hbadA (range_bad hml h))
              cases hmc : machB yc <;> simp only [hmc] at HM2
              · have hbad := hbadI (by unfold okIn; rw [hy]; dsimp only; rw [hmc]; rfl)
                clear hy hmc
                go_upto_region 11 with fail
                refine wp_name ?_
                intro w2 hw2
                obtain ⟨B6, l2⟩ := box1 hw2
                clear hw2
                have l22 : Later w2 w2 := Later.refl
                (refine wp_region_after (by kernel_rfl) (by kernel_rfl) ?_
                 repeat (any_goals (first | go_big_quiet_skip | (go_big_quiet_want; go_big_quiet_op; first | go_big_quiet_on | go_big_quiet_call ((first | (go_at_call 46; exact Calls.after (HM2 _)) | (go_at_call 48; exact Calls.after (HC2 _))))) | quiet_step ((first | (go_at_call 46; exact Calls.after (HM2 _)) | (go_at_call 48; exact Calls.after (HC2 _)))) | (refine wpQuiet_step (fun K hK => ?_); go_simp; split <;> (refine hK _ ?_; clear hK K))))
                 all_goals (refine wpQuiet_nil ?_; intro _ hw'; obtain ⟨u', hw''⟩ := hw'; subst hw''; obtain ⟨wd, hbd⟩ := u'; simp only [After.val_mk]))
                have ld := later hbd
                go_wp2_with fail
                go_ret
                exact ⟨ret_bool hbad.out.symm, below_of⟩
              by_cases hyo : yo < 0
              · have hbad := hbadI (by unfold okIn; rw [hy]; dsimp only; rw [decide_eq_false (by omega : ¬ 0 ≤ yo), Bool.and_false]; rfl)
                clear hy hmc
                go_upto_region 11 with fail
                refine wp_name ?_
                intro w2 hw2
                obtain ⟨B6, l2⟩ := box1 hw2
                clear hw2
                have l22 : Later w2 w2 := Later.refl
                (refine wp_region_after (by kernel_rfl) (by kernel_rfl) ?_
                 repeat (any_goals (first | go_big_quiet_skip | (go_big_quiet_want; go_big_quiet_op; first | go_big_quiet_on | go_big_quiet_call ((first | (go_at_call 46; exact Calls.after (HM2 _)) | (go_at_call 48; exact Calls.after (HC2 _))))) | quiet_step ((first | (go_at_call 46; exact Calls.after (HM2 _)) | (go_at_call 48; exact Calls.after (HC2 _)))) | (refine wpQuiet_step (fun K hK => ?_); go_simp; split <;> (refine hK _ ?_; clear hK K))))
                 all_goals (refine wpQuiet_nil ?_; intro _ hw'; obtain ⟨u', hw''⟩ := hw'; subst hw''; obtain ⟨wd, hbd⟩ := u'; simp only [After.val_mk]))
                have ld := later hbd
                go_wp2_with fail
                go_ret
                exact ⟨ret_bool hbad.out.symm, below_of⟩
              rcases m with _ | j
              · have hok := hide (show okIn xi 0 = true by unfold okIn; rw [hy]; dsimp only; rw [hmc, decide_eq_true (by omega : 0 ≤ yo)]; rfl)
                unfold InsetE.Has at C3
                simp only [Nat.zero_mul, Nat.add_zero] at C3
                have hmi : (0 : Int) < (xi.length : Int) := by omega
                clear hy hmc
                go_upto_region 11 with fail
                refine wp_name ?_
                intro w2 hw2
                obtain ⟨B6, l2⟩ := box1 hw2
                clear hw2
                have l22 : Later w2 w2 := Later.refl
                (refine wp_region_after (by kernel_rfl) (by kernel_rfl) ?_
                 repeat (any_goals (first | go_big_quiet_skip | (go_big_quiet_want; go_big_quiet_op; first | go_big_quiet_on | go_big_quiet_call ((first | (go_at_call 46; exact Calls.after (HM2 _)) | (go_at_call 48; exact Calls.after (HC2 _))))) | quiet_step ((first | (go_at_call 46; exact Calls.after (HM2 _)) | (go_at_call 48; exact Calls.after (HC2 _)))) | (refine wpQuiet_step (fun K hK => ?_); go_simp; split <;> (refine hK _ ?_; clear hK K))))
                 all_goals (refine wpQuiet_nil ?_; intro _ hw'; obtain ⟨u', hw''⟩ := hw'; subst hw''; obtain ⟨wd, hbd⟩ := u'; simp only [After.val_mk]))
                have ld := later hbd
                go_wp2_with fail
                go_roundw
                case rel => exact ⟨1, by omega, by go_num, hide (upto_succ hino.out hok.out), below_of⟩
                case measure => simp [intOf]; omega
              · obtain ⟨b4, o4, z, hA, hz, C4⟩ := InsetE.get (F1 wr) (show j < xi.length by omega)
                injection hA with hA
                injection hA with hA1 hA2
                subst hA1 hA2
                obtain ⟨zc, zn, zo⟩ := z
                obtain ⟨cv, hcv⟩ : ∃ cv, cv = cmpIn ⟨zc, zn, zo⟩ ⟨yc, yn, yo⟩ := ⟨_, rfl⟩
                have HC2 : ∀ u, Calls Try.prog 48 #[.agg #[.int .i64 zc, .int .u64 zn, .int .i64 zo], .agg #[.int .i64 yc, .int .u64 yn, .int .i64 yo]] u fun r w' => r = .returned (.int .i64 cv) ∧ Below u.heap.size u w' := fun u => by rw [hcv]; exact (cmpIn_any ⟨zc, zn, zo⟩ ⟨yc, yn, yo⟩ u).mono fun r w' h => ⟨h.1, h.2.below⟩
                have hlx : decide (lexN zc zn yc yn) = decide (cv < 0) := by rw [hcv]; exact (cmpIn_lt ⟨zc, zn, zo⟩ ⟨yc, yn, yo⟩).symm
                have hji : (((j + 1 : Nat) : Int) - 1) = (j : Int) := by omega
                have hj0 : (0 : Int) < ((j + 1 : Nat) : Int) := by omega
                by_cases hc : 0 ≤ cv
                · have hbad := hbadI (by unfold okIn; rw [hy]; dsimp only; rw [hz]; dsimp only; rw [hlx, decide_eq_false (by omega : ¬ cv < 0), Bool.and_false])
                  clear hy hmc hz hcv hlx
                  go_upto_region 11 with fail
                  refine wp_name ?_
                  intro w2 hw2
                  obtain ⟨B6, l2⟩ := box1 hw2
                  clear hw2
                  have l22 : Later w2 w2 := Later.refl
                  (refine wp_region_after (by kernel_rfl) (by kernel_rfl) ?_
                   repeat (any_goals (first | go_big_quiet_skip | (go_big_quiet_want; go_big_quiet_op; first | go_big_quiet_on | go_big_quiet_call ((first | (go_at_call 46; exact Calls.after (HM2 _)) | (go_at_call 48; exact Calls.after (HC2 _))))) | quiet_step ((first | (go_at_call 46; exact Calls.after (HM2 _)) | (go_at_call 48; exact Calls.after (HC2 _)))) | (refine wpQuiet_step (fun K hK => ?_); go_simp; split <;> (refine hK _ ?_; clear hK K))))
                   all_goals (refine wpQuiet_nil ?_; intro _ hw'; obtain ⟨u', hw''⟩ := hw'; subst hw''; obtain ⟨wd, hbd⟩ := u'; simp only [After.val_mk]))
                  have ld := later hbd
                  go_wp2_with fail
                  go_ret
                  exact ⟨ret_bool hbad.out.symm, below_of⟩
                · have hok := hide (show okIn xi (j + 1) = true by unfold okIn; rw [hy]; dsimp only; rw [hz]; dsimp only; rw [hlx, decide_eq_true (by omega : cv < 0), hmc, decide_eq_true (by omega : 0 ≤ yo)]; rfl)
                  clear hy hmc hz hcv hlx
                  go_upto_region 11 with fail
                  refine wp_name ?_
                  intro w2 hw2
                  obtain ⟨B6, l2⟩ := box1 hw2
                  clear hw2
                  have l22 : Later w2 w2 := Later.refl
                  (refine wp_region_after (by kernel_rfl) (by kernel_rfl) ?_
                   repeat (any_goals (first | go_big_quiet_skip | (go_big_quiet_want; go_big_quiet_op; first | go_big_quiet_on | go_big_quiet_call ((first | (go_at_call 46; exact Calls.after (HM2 _)) | (go_at_call 48; exact Calls.after (HC2 _))))) | quiet_step ((first | (go_at_call 46; exact Calls.after (HM2 _)) | (go_at_call 48; exact Calls.after (HC2 _)))) | (refine wpQuiet_step (fun K hK => ?_); go_simp; split <;> (refine hK _ ?_; clear hK K))))
                   all_goals (refine wpQuiet_nil ?_; intro _ hw'; obtain ⟨u', hw''⟩ := hw'; subst hw''; obtain ⟨wd, hbd⟩ := u'; simp only [After.val_mk]))
                  have ld := later hbd
                  go_wp2_with fail
                  go_roundw
                  case rel => exact ⟨j + 1 + 1, by omega, by go_num, hide (upto_succ hino.out hok.out), below_of⟩
                  case measure => simp [intOf]; omega
            · have hmm : m = xi.length := by omega
              subst hmm
              have hok := hide (hokA (range_all hino.out))
              go_wp2_with fail
              go_roundw
              case rel => exact ⟨1, by omega, by go_num, hide (upto_succ Hno.out hok.out), below_of⟩
              case measure => simp [intOf]; omega
        · obtain ⟨b2, o2, p, hA, hp, C2, -, -, -⟩ := (HL wr).get (k := j) (by omega)
          injection hA with hA
          injection hA with hA1 hA2
          subst hA1 hA2
          have hcp := conS_get hp
          obtain ⟨po, pn, pr, pd, pA, pc, pi⟩ := p
          dsimp only [SumE.con] at C2 hcp
          obtain ⟨cv, hcv⟩ : ∃ cv, cv = cmpSu ⟨po, pn, pr, pd, pA, pc, pi⟩ ⟨xo, xn, false, 0, xA, xc, xi⟩ := ⟨_, rfl⟩
          have HC : ∀ u (xr : Bool) (xd : Int), Calls Try.prog 47 #[.agg #[.int .i64 po, .int .u64 pn, .bool pr, .int .i64 pd, .slice pA pi.length pc], .agg #[.int .i64 xo, .int .u64 xn, .bool xr, .int .i64 xd, .slice xA xi.length xc]] u fun r w' => r = .returned (.int .i64 cv) ∧ Below u.heap.size u w' := fun u xr xd => by rw [hcv]; exact (cmpSu_any ⟨po, pn, pr, pd, pA, pc, pi⟩ ⟨xo, xn, xr, xd, xA, xc, xi⟩ u).mono fun r w' h => ⟨h.1, h.2.below⟩
          have hlx : decide (lexN po pn xo xn) = decide (cv < 0) := by rw [hcv]; exact (cmpSu_lt ⟨po, pn, pr, pd, pA, pc, pi⟩ ⟨xo, xn, false, 0, xA, xc, xi⟩).symm
          have hji : (((j + 1 : Nat) : Int) - 1) = (j : Int) := by omega
          have hj0 : (0 : Int) < ((j + 1 : Nat) : Int) := by omega
          by_cases hc : 0 ≤ cv
          · have hbad := hide (show R = false by
              rw [HR.out]
              refine validS_bad (k := j + 1) (by rw [HLC.out]; exact hlt) ?_
              unfold okAt; rw [hcx]; dsimp only; rw [hcp]; dsimp only; rw [hlx, decide_eq_false (by omega : ¬ cv < 0), Bool.and_false])
            clear hcx hmo hx hS hS2 hcp hp hcv hlx
            go_upto_region 6 with fail
            refine wp_name ?_
            intro w1 hw1
            obtain ⟨B4, l1⟩ := box1 hw1
            clear hw1
            have l11 : Later w1 w1 := Later.refl
            (refine wp_region_after (by kernel_rfl) (by kernel_rfl) ?_
             repeat (any_goals (first | go_big_quiet_skip | (go_big_quiet_want; go_big_quiet_op; first | go_big_quiet_on | go_big_quiet_call ((first | (go_at_call 46; exact Calls.after (HM _)) | (go_at_call 47; exact Calls.after (HC _ _ _))))) | quiet_step ((first | (go_at_call 46; exact Calls.after (HM _)) | (go_at_call 47; exact Calls.after (HC _ _ _)))) | (refine wpQuiet_step (fun K hK => ?_); go_simp; split <;> (refine hK _ ?_; clear hK K))))
             all_goals (refine wpQuiet_nil ?_; intro _ hw'; obtain ⟨u', hw''⟩ := hw'; subst hw''; obtain ⟨wd, hbd⟩ := u'; simp only [After.val_mk]))
            have ld := later hbd
            go_wp2_with fail
            go_ret
            exact ⟨ret_bool hbad.out.symm, below_of⟩
          · have hokA : insOk xi = true → okAt (l.map SumE.con) (j + 1) = true := fun h => by unfold okAt; rw [hcx]; dsimp only; rw [hcp]; dsimp only; rw [hlx, decide_eq_true (by omega : cv < 0), hS2 h]; rfl
            clear hcx hmo hx hS hS2 hcp hp hcv hlx
            go_upto_region 6 with fail
            refine wp_name ?_
            intro w1 hw1
            obtain ⟨B4, l1⟩ := box1 hw1
            clear hw1
            have l11 : Later w1 w1 := Later.refl
            (refine wp_region_after (by kernel_rfl) (by kernel_rfl) ?_
             repeat (any_goals (first | go_big_quiet_skip | (go_big_quiet_want; go_big_quiet_op; first | go_big_quiet_on | go_big_quiet_call ((first | (go_at_call 46; exact Calls.after (HM _)) | (go_at_call 47; exact Calls.after (HC _ _ _))))) | quiet_step ((first | (go_at_call 46; exact Calls.after (HM _)) | (go_at_call 47; exact Calls.after (HC _ _ _)))) | (refine wpQuiet_step (fun K hK => ?_); go_simp; split <;> (refine hK _ ?_; clear hK K))))
             all_goals (refine wpQuiet_nil ?_; intro _ hw'; obtain ⟨u', hw''⟩ := hw'; subst hw''; obtain ⟨wd, hbd⟩ := u'; simp only [After.val_mk]))
            have ld := later hbd
            have ldd : Later wd wd := Later.refl
            go_wp2_with fail
            go_loopw [71] (fun iv wr => ∃ m : Nat, m ≤ xi.length ∧ iv = .int .i64 m ∧ Hid (∀ j, j < m → okIn xi j = true) ∧ Below wd.heap.size wd wr) (fun iv _ => xi.length - (intOf iv).toNat)
            case atStart => exact ⟨0, by omega, rfl, hide (fun j h => absurd h (by omega)), Below.refl _ _⟩
            case round =>
              obtain ⟨m, hm, rfl, hino, hbm⟩ := hrel
              have lm := later hbm
              by_cases hml : m < xi.length
              · have hmi : (m : Int) < (xi.length : Int) := by omega
                obtain ⟨b3, o3, y, rfl, hy, C3⟩ := InsetE.get (F1 wr) hml
                obtain ⟨yc, yn, yo⟩ := y
                have HM2 : ∀ u, Calls Try.prog 46 #[.int .i64 yc] u fun r w' => r = .returned (.bool (machB yc)) ∧ Below u.heap.size u w' := fun u => machine_any yc u
                have hbadI : okIn xi m = false → Hid (R = false) := fun h => hide (by rw [HR.out]; exact hbadA (range_bad hml h))
                cases hmc : machB yc <;> simp only [hmc] at HM2
                · have hbad := hbadI (by unfold okIn; rw [hy]; dsimp only; rw [hmc]; rfl)
                  clear hy hmc
                  go_upto_region 11 with fail
                  refine wp_name ?_
                  intro w2 hw2
                  obtain ⟨B6, l2⟩ := box1 hw2
                  clear hw2
                  have l22 : Later w2 w2 := Later.refl
                  (refine wp_region_after (by kernel_rfl) (by kernel_rfl) ?_
                   repeat (any_goals (first | go_big_quiet_skip | (go_big_quiet_want; go_big_quiet_op; first | go_big_quiet_on | go_big_quiet_call ((first | (go_at_call 46; exact Calls.after (HM2 _)) | (go_at_call 48; exact Calls.after (HC2 _))))) | quiet_step ((first | (go_at_call 46; exact Calls.after (HM2 _)) | (go_at_call 48; exact Calls.after (HC2 _)))) | (refine wpQuiet_step (fun K hK => ?_); go_simp; split <;> (refine hK _ ?_; clear hK K))))
                   all_goals (refine wpQuiet_nil ?_; intro _ hw'; obtain ⟨u', hw''⟩ := hw'; subst hw''; obtain ⟨wd, hbd⟩ := u'; simp only [After.val_mk]))
                  have ld := later hbd
                  go_wp2_with fail
                  go_ret
                  exact ⟨ret_bool hbad.out.symm, below_of⟩
                by_cases hyo : yo < 0
                · have hbad := hbadI (by unfold okIn; rw [hy]; dsimp only; rw [decide_eq_false (by omega : ¬ 0 ≤ yo), Bool.and_false]; rfl)
                  clear hy hmc
                  go_upto_region 11 with fail
                  refine wp_name ?_
                  intro w2 hw2
                  obtain ⟨B6, l2⟩ := box1 hw2
                  clear hw2
                  have l22 : Later w2 w2 := Later.refl
                  (refine wp_region_after (by kernel_rfl) (by kernel_rfl) ?_
                   repeat (any_goals (first | go_big_quiet_skip | (go_big_quiet_want; go_big_quiet_op; first | go_big_quiet_on | go_big_quiet_call ((first | (go_at_call 46; exact Calls.after (HM2 _)) | (go_at_call 48; exact Calls.after (HC2 _))))) | quiet_step ((first | (go_at_call 46; exact Calls.after (HM2 _)) | (go_at_call 48; exact Calls.after (HC2 _)))) | (refine wpQuiet_step (fun K hK => ?_); go_simp; split <;> (refine hK _ ?_; clear hK K))))
                   all_goals (refine wpQuiet_nil ?_; intro _ hw'; obtain ⟨u', hw''⟩ := hw'; subst hw''; obtain ⟨wd, hbd⟩ := u'; simp only [After.val_mk]))
                  have ld := later hbd
                  go_wp2_with fail
                  go_ret
                  exact ⟨ret_bool hbad.out.symm, below_of⟩
                rcases m with _ | j
                · have hok := hide (show okIn xi 0 = true by unfold okIn; rw [hy]; dsimp only; rw [hmc, decide_eq_true (by omega : 0 ≤ yo)]; rfl)
                  unfold InsetE.Has at C3
                  simp only [Nat.zero_mul, Nat.add_zero] at C3
                  have hmi : (0 : Int) < (xi.length : Int) := by omega
                  clear hy hmc
                  go_upto_region 11 with fail
                  refine wp_name ?_
                  intro w2 hw2
                  obtain ⟨B6, l2⟩ := box1 hw2
                  clear hw2
                  have l22 : Later w2 w2 := Later.refl
                  (refine wp_region_after (by kernel_rfl) (by kernel_rfl) ?_
                   repeat (any_goals (first | go_big_quiet_skip | (go_big_quiet_want; go_big_quiet_op; first | go_big_quiet_on | go_big_quiet_call ((first | (go_at_call 46; exact Calls.after (HM2 _)) | (go_at_call 48; exact Calls.after (HC2 _))))) | quiet_step ((first | (go_at_call 46; exact Calls.after (HM2 _)) | (go_at_call 48; exact Calls.after (HC2 _)))) | (refine wpQuiet_step (fun K hK => ?_); go_simp; split <;> (refine hK _ ?_; clear hK K))))
                   all_goals (refine wpQuiet_nil ?_; intro _ hw'; obtain ⟨u', hw''⟩ := hw'; subst hw''; obtain ⟨wd, hbd⟩ := u'; simp only [After.val_mk]))
                  have ld := later hbd
                  go_wp2_with fail
                  go_roundw
                  case rel => exact ⟨1, by omega, by go_num, hide (upto_succ hino.out hok.out), below_of⟩
                  case measure => simp [intOf]; omega
                · obtain ⟨b4, o4, z, hA, hz, C4⟩ := InsetE.get (F1 wr) (show j < xi.length by omega)
                  injection hA with hA
                  injection hA with hA1 hA2
                  subst hA1 hA2
                  obtain ⟨zc, zn, zo⟩ := z
                  obtain ⟨cv, hcv⟩ : ∃ cv, cv = cmpIn ⟨zc, zn, zo⟩ ⟨yc, yn, yo⟩ := ⟨_, rfl⟩
                  have HC2 : ∀ u, Calls Try.prog 48 #[.agg #[.int .i64 zc, .int .u64 zn, .int .i64 zo], .agg #[.int .i64 yc, .int .u64 yn, .int .i64 yo]] u fun r w' => r = .returned (.int .i64 cv) ∧ Below u.heap.size u w' := fun u => by rw [hcv]; exact (cmpIn_any ⟨zc, zn, zo⟩ ⟨yc, yn, yo⟩ u).mono fun r w' h => ⟨h.1, h.2.below⟩
                  have hlx : decide (lexN zc zn yc yn) = decide (cv < 0) := by rw [hcv]; exact (cmpIn_lt ⟨zc, zn, zo⟩ ⟨yc, yn, yo⟩).symm
                  have hji : (((j + 1 : Nat) : Int) - 1) = (j : Int) := by omega
                  have hj0 : (0 : Int) < ((j + 1 : Nat) : Int) := by omega
                  by_cases hc : 0 ≤ cv
                  · have hbad := hbadI (by unfold okIn; rw [hy]; dsimp only; rw [hz]; dsimp only; rw [hlx, decide_eq_false (by omega : ¬ cv < 0), Bool.and_false])
                    clear hy hmc hz hcv hlx
                    go_upto_region 11 with fail
                    refine wp_name ?_
                    intro w2 hw2
                    obtain ⟨B6, l2⟩ := box1 hw2
                    clear hw2
                    have l22 : Later w2 w2 := Later.refl
                    (refine wp_region_after (by kernel_rfl) (by kernel_rfl) ?_
                     repeat (any_goals (first | go_big_quiet_skip | (go_big_quiet_want; go_big_quiet_op; first | go_big_quiet_on | go_big_quiet_call ((first | (go_at_call 46; exact Calls.after (HM2 _)) | (go_at_call 48; exact Calls.after (HC2 _))))) | quiet_step ((first | (go_at_call 46; exact Calls.after (HM2 _)) | (go_at_call 48; exact Calls.after (HC2 _)))) | (refine wpQuiet_step (fun K hK => ?_); go_simp; split <;> (refine hK _ ?_; clear hK K))))
                     all_goals (refine wpQuiet_nil ?_; intro _ hw'; obtain ⟨u', hw''⟩ := hw'; subst hw''; obtain ⟨wd, hbd⟩ := u'; simp only [After.val_mk]))
                    have ld := later hbd
                    go_wp2_with fail
                    go_ret
                    exact ⟨ret_bool hbad.out.symm, below_of⟩
                  · have hok := hide (show okIn xi (j + 1) = true by unfold okIn; rw [hy]; dsimp only; rw [hz]; dsimp only; rw [hlx, decide_eq_true (by omega : cv < 0), hmc, decide_eq_true (by omega : 0 ≤ yo)]; rfl)
                    clear hy hmc hz hcv hlx
                    go_upto_region 11 with fail
                    refine wp_name ?_
                    intro w2 hw2
                    obtain ⟨B6, l2⟩ := box1 hw2
                    clear hw2
                    have l22 : Later w2 w2 := Later.refl
                    (refine wp_region_after (by kernel_rfl) (by kernel_rfl) ?_
                     repeat (any_goals (first | go_big_quiet_skip | (go_big_quiet_want; go_big_quiet_op; first | go_big_quiet_on | go_big_quiet_call ((first | (go_at_call 46; exact Calls.after (HM2 _)) | (go_at_call 48; exact Calls.after (HC2 _))))) | quiet_step ((first | (go_at_call 46; exact Calls.after (HM2 _)) | (go_at_call 48; exact Calls.after (HC2 _)))) | (refine wpQuiet_step (fun K hK => ?_); go_simp; split <;> (refine hK _ ?_; clear hK K))))
                     all_goals (refine wpQuiet_nil ?_; intro _ hw'; obtain ⟨u', hw''⟩ := hw'; subst hw''; obtain ⟨wd, hbd⟩ := u'; simp only [After.val_mk]))
                    have ld := later hbd
                    go_wp2_with fail
                    go_roundw
                    case rel => exact ⟨j + 1 + 1, by omega, by go_num, hide (upto_succ hino.out hok.out), below_of⟩
                    case measure => simp [intOf]; omega
              · have hmm : m = xi.length := by omega
                subst hmm
                have hok := hide (hokA (range_all hino.out))
                go_wp2_with fail
                go_roundw
                case rel => exact ⟨j + 1 + 1, by omega, by go_num, hide (upto_succ Hno.out hok.out), below_of⟩
                case measure => simp [intOf]; omega
      · by_cases hd3 : xd = 1
        · subst hd3
          have hS : insOk xi = true → xi.length ≤ 1024 → okS ⟨xo, xn, true, 1, xi⟩ = true := fun h h2 => by unfold okS; dsimp only; rw [hmo, h, decide_eq_true h2]; rfl
          clear hd1 hd2
          by_cases hd5 : (1024 : Int) < (xi.length : Int)
          · have hbad := hbadS (by unfold okS; dsimp only; rw [decide_eq_false (by omega : ¬ xi.length ≤ 1024)]; simp)
            clear hcx hmo hx hS
            go_upto_region 6 with fail
            refine wp_name ?_
            intro w1 hw1
            obtain ⟨B4, l1⟩ := box1 hw1
            clear hw1
            have l11 : Later w1 w1 := Later.refl
            (refine wp_region_after (by kernel_rfl) (by kernel_rfl) ?_
             repeat (any_goals (first | go_big_quiet_skip | (go_big_quiet_want; go_big_quiet_op; first | go_big_quiet_on | go_big_quiet_call ((first | (go_at_call 46; exact Calls.after (HM _)) | (go_at_call 47; exact Calls.after (HC _ _ _))))) | quiet_step ((first | (go_at_call 46; exact Calls.after (HM _)) | (go_at_call 47; exact Calls.after (HC _ _ _)))) | (refine wpQuiet_step (fun K hK => ?_); go_simp; split <;> (refine hK _ ?_; clear hK K))))
             all_goals (refine wpQuiet_nil ?_; intro _ hw'; obtain ⟨u', hw''⟩ := hw'; subst hw''; obtain ⟨wd, hbd⟩ := u'; simp only [After.val_mk]))
            have ld := later hbd
            go_wp2_with fail
            go_ret
            exact ⟨ret_bool hbad.out.symm, below_of⟩
          have hS2 := fun h => hS h (by omega)
          rcases k with _ | j
          · have hokA : insOk xi = true → okAt (l.map SumE.con) 0 = true := fun h => by unfold okAt; rw [hcx]; dsimp only; rw [hS2 h]; rfl
            simp only [Nat.zero_mul, Nat.add_zero] at C1
            have hki : (0 : Int) < (l.length : Int) := by omega
            clear hcx hmo hx hS hS2
            go_upto_region 6 with fail
            refine wp_name ?_
            intro w1 hw1
            obtain ⟨B4, l1⟩ := box1 hw1
            clear hw1
            have l11 : Later w1 w1 := Later.refl
            (refine wp_region_after (by kernel_rfl) (by kernel_rfl) ?_
             repeat (any_goals (first | go_big_quiet_skip | (go_big_quiet_want; go_big_quiet_op; first | go_big_quiet_on | go_big_quiet_call ((first | (go_at_call 46; exact Calls.after (HM _)) | (go_at_call 47; exact Calls.after (HC _ _ _))))) | quiet_step ((first | (go_at_call 46; exact Calls.after (HM _)) | (go_at_call 47; exact Calls.after (HC _ _ _)))) | (refine wpQuiet_step (fun K hK => ?_); go_simp; split <;> (refine hK _ ?_; clear hK K))))
             all_goals (refine wpQuiet_nil ?_; intro _ hw'; obtain ⟨u', hw''⟩ := hw'; subst hw''; obtain ⟨wd, hbd⟩ := u'; simp only [After.val_mk]))
            have ld := later hbd
            have ldd : Later wd wd := Later.refl
            go_wp2_with fail
            go_loopw [71] (fun iv wr => ∃ m : Nat, m ≤ xi.length ∧ iv = .int .i64 m ∧ Hid (∀ j, j < m → okIn xi j = true) ∧ Below wd.heap.size wd wr) (fun iv _ => xi.length - (intOf iv).toNat)
            case atStart => exact ⟨0, by omega, rfl, hide (fun j h => absurd h (by omega)), Below.refl _ _⟩
            case round =>
              obtain ⟨m, hm, rfl, hino, hbm⟩ := hrel
              have lm := later hbm
              by_cases hml : m < xi.length
              · have hmi : (m : Int) < (xi.length : Int) := by omega
                obtain ⟨b3, o3, y, rfl, hy, C3⟩ := InsetE.get (F1 wr) hml
                obtain ⟨yc, yn, yo⟩ := y
                have HM2 : ∀ u, Calls Try.prog 46 #[.int .i64 yc] u fun r w' => r = .returned (.bool (machB yc)) ∧ Below u.heap.size u w' := fun u => machine_any yc u
                have hbadI : okIn xi m = false → Hid (R = false) := fun h => hide (by rw [HR.out]; exact hbadA (range_bad hml h))
                cases hmc : machB yc <;> simp only [hmc] at HM2
                · have hbad := hbadI (by unfold okIn; rw [hy]; dsimp only; rw [hmc]; rfl)
                  clear hy hmc
                  go_upto_region 11 with fail
                  refine wp_name ?_
                  intro w2 hw2
                  obtain ⟨B6, l2⟩ := box1 hw2
                  clear hw2
                  have l22 : Later w2 w2 := Later.refl
                  (refine wp_region_after (by kernel_rfl) (by kernel_rfl) ?_
                   repeat (any_goals (first | go_big_quiet_skip | (go_big_quiet_want; go_big_quiet_op; first | go_big_quiet_on | go_big_quiet_call ((first | (go_at_call 46; exact Calls.after (HM2 _)) | (go_at_call 48; exact Calls.after (HC2 _))))) | quiet_step ((first | (go_at_call 46; exact Calls.after (HM2 _)) | (go_at_call 48; exact Calls.after (HC2 _)))) | (refine wpQuiet_step (fun K hK => ?_); go_simp; split <;> (refine hK _ ?_; clear hK K))))
                   all_goals (refine wpQuiet_nil ?_; intro _ hw'; obtain ⟨u', hw''⟩ := hw'; subst hw''; obtain ⟨wd, hbd⟩ := u'; simp only [After.val_mk]))
                  have ld := later hbd
                  go_wp2_with fail
                  go_ret
                  exact ⟨ret_bool hbad.out.symm, below_of⟩
                by_cases hyo : yo < 0
                · have hbad := hbadI (by unfold okIn; rw [hy]; dsimp only; rw [decide_eq_false (by omega : ¬ 0 ≤ yo), Bool.and_false]; rfl)
                  clear hy hmc
                  go_upto_region 11 with fail
                  refine wp_name ?_
                  intro w2 hw2
                  obtain ⟨B6, l2⟩ := box1 hw2
                  clear hw2
                  have l22 : Later w2 w2 := Later.refl
                  (refine wp_region_after (by kernel_rfl) (by kernel_rfl) ?_
                   repeat (any_goals (first | go_big_quiet_skip | (go_big_quiet_want; go_big_quiet_op; first | go_big_quiet_on | go_big_quiet_call ((first | (go_at_call 46; exact Calls.after (HM2 _)) | (go_at_call 48; exact Calls.after (HC2 _))))) | quiet_step ((first | (go_at_call 46; exact Calls.after (HM2 _)) | (go_at_call 48; exact Calls.after (HC2 _)))) | (refine wpQuiet_step (fun K hK => ?_); go_simp; split <;> (refine hK _ ?_; clear hK K))))
                   all_goals (refine wpQuiet_nil ?_; intro _ hw'; obtain ⟨u', hw''⟩ := hw'; subst hw''; obtain ⟨wd, hbd⟩ := u'; simp only [After.val_mk]))
                  have ld := later hbd
                  go_wp2_with fail
                  go_ret
                  exact ⟨ret_bool hbad.out.symm, below_of⟩
                rcases m with _ | j
                · have hok := hide (show okIn xi 0 = true by unfold okIn; rw [hy]; dsimp only; rw [hmc, decide_eq_true (by omega : 0 ≤ yo)]; rfl)
                  unfold InsetE.Has at C3
                  simp only [Nat.zero_mul, Nat.add_zero] at C3
                  have hmi : (0 : Int) < (xi.length : Int) := by omega
                  clear hy hmc
                  go_upto_region 11 with fail
                  refine wp_name ?_
                  intro w2 hw2
                  obtain ⟨B6, l2⟩ := box1 hw2
                  clear hw2
                  have l22 : Later w2 w2 := Later.refl
                  (refine wp_region_after (by kernel_rfl) (by kernel_rfl) ?_
                   repeat (any_goals (first | go_big_quiet_skip | (go_big_quiet_want; go_big_quiet_op; first | go_big_quiet_on | go_big_quiet_call ((first | (go_at_call 46; exact Calls.after (HM2 _)) | (go_at_call 48; exact Calls.after (HC2 _))))) | quiet_step ((first | (go_at_call 46; exact Calls.after (HM2 _)) | (go_at_call 48; exact Calls.after (HC2 _)))) | (refine wpQuiet_step (fun K hK => ?_); go_simp; split <;> (refine hK _ ?_; clear hK K))))
                   all_goals (refine wpQuiet_nil ?_; intro _ hw'; obtain ⟨u', hw''⟩ := hw'; subst hw''; obtain ⟨wd, hbd⟩ := u'; simp only [After.val_mk]))
                  have ld := later hbd
                  go_wp2_with fail
                  go_roundw
                  case rel => exact ⟨1, by omega, by go_num, hide (upto_succ hino.out hok.out), below_of⟩
                  case measure => simp [intOf]; omega
                · obtain ⟨b4, o4, z, hA, hz, C4⟩ := InsetE.get (F1 wr) (show j < xi.length by omega)
                  injection hA with hA
                  injection hA with hA1 hA2
                  subst hA1 hA2
                  obtain ⟨zc, zn, zo⟩ := z
                  obtain ⟨cv, hcv⟩ : ∃ cv, cv = cmpIn ⟨zc, zn, zo⟩ ⟨yc, yn, yo⟩ := ⟨_, rfl⟩
                  have HC2 : ∀ u, Calls Try.prog 48 #[.agg #[.int .i64 zc, .int .u64 zn, .int .i64 zo], .agg #[.int .i64 yc, .int .u64 yn, .int .i64 yo]] u fun r w' => r = .returned (.int .i64 cv) ∧ Below u.heap.size u w' := fun u => by rw [hcv]; exact (cmpIn_any ⟨zc, zn, zo⟩ ⟨yc, yn, yo⟩ u).mono fun r w' h => ⟨h.1, h.2.below⟩
                  have hlx : decide (lexN zc zn yc yn) = decide (cv < 0) := by rw [hcv]; exact (cmpIn_lt ⟨zc, zn, zo⟩ ⟨yc, yn, yo⟩).symm
                  have hji : (((j + 1 : Nat) : Int) - 1) = (j : Int) := by omega
                  have hj0 : (0 : Int) < ((j + 1 : Nat) : Int) := by omega
                  by_cases hc : 0 ≤ cv
                  · have hbad := hbadI (by unfold okIn; rw [hy]; dsimp only; rw [hz]; dsimp only; rw [hlx, decide_eq_false (by omega : ¬ cv < 0), Bool.and_false])
                    clear hy hmc hz hcv hlx
                    go_upto_region 11 with fail
                    refine wp_name ?_
                    intro w2 hw2
                    obtain ⟨B6, l2⟩ := box1 hw2
                    clear hw2
                    have l22 : Later w2 w2 := Later.refl
                    (refine wp_region_after (by kernel_rfl) (by kernel_rfl) ?_
                     repeat (any_goals (first | go_big_quiet_skip | (go_big_quiet_want; go_big_quiet_op; first | go_big_quiet_on | go_big_quiet_call ((first | (go_at_call 46; exact Calls.after (HM2 _)) | (go_at_call 48; exact Calls.after (HC2 _))))) | quiet_step ((first | (go_at_call 46; exact Calls.after (HM2 _)) | (go_at_call 48; exact Calls.after (HC2 _)))) | (refine wpQuiet_step (fun K hK => ?_); go_simp; split <;> (refine hK _ ?_; clear hK K))))
                     all_goals (refine wpQuiet_nil ?_; intro _ hw'; obtain ⟨u', hw''⟩ := hw'; subst hw''; obtain ⟨wd, hbd⟩ := u'; simp only [After.val_mk]))
                    have ld := later hbd
                    go_wp2_with fail
                    go_ret
                    exact ⟨ret_bool hbad.out.symm, below_of⟩
                  · have hok := hide (show okIn xi (j + 1) = true by unfold okIn; rw [hy]; dsimp only; rw [hz]; dsimp only; rw [hlx, decide_eq_true (by omega : cv < 0), hmc, decide_eq_true (by omega : 0 ≤ yo)]; rfl)
                    clear hy hmc hz hcv hlx
                    go_upto_region 11 with fail
                    refine wp_name ?_
                    intro w2 hw2
                    obtain ⟨B6, l2⟩ := box1 hw2
                    clear hw2
                    have l22 : Later w2 w2 := Later.refl
                    (refine wp_region_after (by kernel_rfl) (by kernel_rfl) ?_
                     repeat (any_goals (first | go_big_quiet_skip | (go_big_quiet_want; go_big_quiet_op; first | go_big_quiet_on | go_big_quiet_call ((first | (go_at_call 46; exact Calls.after (HM2 _)) | (go_at_call 48; exact Calls.after (HC2 _))))) | quiet_step ((first | (go_at_call 46; exact Calls.after (HM2 _)) | (go_at_call 48; exact Calls.after (HC2 _)))) | (refine wpQuiet_step (fun K hK => ?_); go_simp; split <;> (refine hK _ ?_; clear hK K))))
                     all_goals (refine wpQuiet_nil ?_; intro _ hw'; obtain ⟨u', hw''⟩ := hw'; subst hw''; obtain ⟨wd, hbd⟩ := u'; simp only [After.val_mk]))
                    have ld := later hbd
                    go_wp2_with fail
                    go_roundw
                    case rel => exact ⟨j + 1 + 1, by omega, by go_num, hide (upto_succ hino.out hok.out), below_of⟩
                    case measure => simp [intOf]; omega
              · have hmm : m = xi.length := by omega
                subst hmm
                have hok := hide (hokA (range_all hino.out))
                go_wp2_with fail
                go_roundw
                case rel => exact ⟨1, by omega, by go_num, hide (upto_succ Hno.out hok.out), below_of⟩
                case measure => simp [intOf]; omega
          · obtain ⟨b2, o2, p, hA, hp, C2, -, -, -⟩ := (HL wr).get (k := j) (by omega)
            injection hA with hA
            injection hA with hA1 hA2
            subst hA1 hA2
            have hcp := conS_get hp
            obtain ⟨po, pn, pr, pd, pA, pc, pi⟩ := p
            dsimp only [SumE.con] at C2 hcp
            obtain ⟨cv, hcv⟩ : ∃ cv, cv = cmpSu ⟨po, pn, pr, pd, pA, pc, pi⟩ ⟨xo, xn, false, 0, xA, xc, xi⟩ := ⟨_, rfl⟩
            have HC : ∀ u (xr : Bool) (xd : Int), Calls Try.prog 47 #[.agg #[.int .i64 po, .int .u64 pn, .bool pr, .int .i64 pd, .slice pA pi.length pc], .agg #[.int .i64 xo, .int .u64 xn, .bool xr, .int .i64 xd, .slice xA xi.length xc]] u fun r w' => r = .returned (.int .i64 cv) ∧ Below u.heap.size u w' := fun u xr xd => by rw [hcv]; exact (cmpSu_any ⟨po, pn, pr, pd, pA, pc, pi⟩ ⟨xo, xn, xr, xd, xA, xc, xi⟩ u).mono fun r w' h => ⟨h.1, h.2.below⟩
            have hlx : decide (lexN po pn xo xn) = decide (cv < 0) := by rw [hcv]; exact (cmpSu_lt ⟨po, pn, pr, pd, pA, pc, pi⟩ ⟨xo, xn, false, 0, xA, xc, xi⟩).symm
            have hji : (((j + 1 : Nat) : Int) - 1) = (j : Int) := by omega
            have hj0 : (0 : Int) < ((j + 1 : Nat) : Int) := by omega
            by_cases hc : 0 ≤ cv
            · have hbad := hide (show R = false by
                rw [HR.out]
                refine validS_bad (k := j + 1) (by rw [HLC.out]; exact hlt) ?_
                unfold okAt; rw [hcx]; dsimp only; rw [hcp]; dsimp only; rw [hlx, decide_eq_false (by omega : ¬ cv < 0), Bool.and_false])
              clear hcx hmo hx hS hS2 hcp hp hcv hlx
              go_upto_region 6 with fail
              refine wp_name ?_
              intro w1 hw1
              obtain ⟨B4, l1⟩ := box1 hw1
              clear hw1
              have l11 : Later w1 w1 := Later.refl
              (refine wp_region_after (by kernel_rfl) (by kernel_rfl) ?_
               repeat (any_goals (first | go_big_quiet_skip | (go_big_quiet_want; go_big_quiet_op; first | go_big_quiet_on | go_big_quiet_call ((first | (go_at_call 46; exact Calls.after (HM _)) | (go_at_call 47; exact Calls.after (HC _ _ _))))) | quiet_step ((first | (go_at_call 46; exact Calls.after (HM _)) | (go_at_call 47; exact Calls.after (HC _ _ _)))) | (refine wpQuiet_step (fun K hK => ?_); go_simp; split <;> (refine hK _ ?_; clear hK K))))
               all_goals (refine wpQuiet_nil ?_; intro _ hw'; obtain ⟨u', hw''⟩ := hw'; subst hw''; obtain ⟨wd, hbd⟩ := u'; simp only [After.val_mk]))
              have ld := later hbd
              go_wp2_with fail
              go_ret
              exact ⟨ret_bool hbad.out.symm, below_of⟩
            · have hokA : insOk xi = true → okAt (l.map SumE.con) (j + 1) = true := fun h => by unfold okAt; rw [hcx]; dsimp only; rw [hcp]; dsimp only; rw [hlx, decide_eq_true (by omega : cv < 0), hS2 h]; rfl
              clear hcx hmo hx hS hS2 hcp hp hcv hlx
              go_upto_region 6 with fail
              refine wp_name ?_
              intro w1 hw1
              obtain ⟨B4, l1⟩ := box1 hw1
              clear hw1
              have l11 : Later w1 w1 := Later.refl
              (refine wp_region_after (by kernel_rfl) (by kernel_rfl) ?_
               repeat (any_goals (first | go_big_quiet_skip | (go_big_quiet_want; go_big_quiet_op; first | go_big_quiet_on | go_big_quiet_call ((first | (go_at_call 46; exact Calls.after (HM _)) | (go_at_call 47; exact Calls.after (HC _ _ _))))) | quiet_step ((first | (go_at_call 46; exact Calls.after (HM _)) | (go_at_call 47; exact Calls.after (HC _ _ _)))) | (refine wpQuiet_step (fun K hK => ?_); go_simp; split <;> (refine hK _ ?_; clear hK K))))
               all_goals (refine wpQuiet_nil ?_; intro _ hw'; obtain ⟨u', hw''⟩ := hw'; subst hw''; obtain ⟨wd, hbd⟩ := u'; simp only [After.val_mk]))
              have ld := later hbd
              have ldd : Later wd wd := Later.refl
              go_wp2_with fail
              go_loopw [71] (fun iv wr => ∃ m : Nat, m ≤ xi.length ∧ iv = .int .i64 m ∧ Hid (∀ j, j < m → okIn xi j = true) ∧ Below wd.heap.size wd wr) (fun iv _ => xi.length - (intOf iv).toNat)
              case atStart => exact ⟨0, by omega, rfl, hide (fun j h => absurd h (by omega)), Below.refl _ _⟩
              case round =>
                obtain ⟨m, hm, rfl, hino, hbm⟩ := hrel
                have lm := later hbm
                by_cases hml : m < xi.length
                · have hmi : (m : Int) < (xi.length : Int) := by omega
                  obtain ⟨b3, o3, y, rfl, hy, C3⟩ := InsetE.get (F1 wr) hml
                  obtain ⟨yc, yn, yo⟩ := y
                  have HM2 : ∀ u, Calls Try.prog 46 #[.int .i64 yc] u fun r w' => r = .returned (.bool (machB yc)) ∧ Below u.heap.size u w' := fun u => machine_any yc u
                  have hbadI : okIn xi m = false → Hid (R = false) := fun h => hide (by rw [HR.out]; exact hbadA (range_bad hml h))
                  cases hmc : machB yc <;> simp only [hmc] at HM2
                  · have hbad := hbadI (by unfold okIn; rw [hy]; dsimp only; rw [hmc]; rfl)
                    clear hy hmc
                    go_upto_region 11 with fail
                    refine wp_name ?_
                    intro w2 hw2
                    obtain ⟨B6, l2⟩ := box1 hw2
                    clear hw2
                    have l22 : Later w2 w2 := Later.refl
                    (refine wp_region_after (by kernel_rfl) (by kernel_rfl) ?_
                     repeat (any_goals (first | go_big_quiet_skip | (go_big_quiet_want; go_big_quiet_op; first | go_big_quiet_on | go_big_quiet_call ((first | (go_at_call 46; exact Calls.after (HM2 _)) | (go_at_call 48; exact Calls.after (HC2 _))))) | quiet_step ((first | (go_at_call 46; exact Calls.after (HM2 _)) | (go_at_call 48; exact Calls.after (HC2 _)))) | (refine wpQuiet_step (fun K hK => ?_); go_simp; split <;> (refine hK _ ?_; clear hK K))))
                     all_goals (refine wpQuiet_nil ?_; intro _ hw'; obtain ⟨u', hw''⟩ := hw'; subst hw''; obtain ⟨wd, hbd⟩ := u'; simp only [After.val_mk]))
                    have ld := later hbd
                    go_wp2_with fail
                    go_ret
                    exact ⟨ret_bool hbad.out.symm, below_of⟩
                  by_cases hyo : yo < 0
                  · have hbad := hbadI (by unfold okIn; rw [hy]; dsimp only; rw [decide_eq_false (by omega : ¬ 0 ≤ yo), Bool.and_false]; rfl)
                    clear hy hmc
                    go_upto_region 11 with fail
                    refine wp_name ?_
                    intro w2 hw2
                    obtain ⟨B6, l2⟩ := box1 hw2
                    clear hw2
                    have l22 : Later w2 w2 := Later.refl
                    (refine wp_region_after (by kernel_rfl) (by kernel_rfl) ?_
                     repeat (any_goals (first | go_big_quiet_skip | (go_big_quiet_want; go_big_quiet_op; first | go_big_quiet_on | go_big_quiet_call ((first | (go_at_call 46; exact Calls.after (HM2 _)) | (go_at_call 48; exact Calls.after (HC2 _))))) | quiet_step ((first | (go_at_call 46; exact Calls.after (HM2 _)) | (go_at_call 48; exact Calls.after (HC2 _)))) | (refine wpQuiet_step (fun K hK => ?_); go_simp; split <;> (refine hK _ ?_; clear hK K))))
                     all_goals (refine wpQuiet_nil ?_; intro _ hw'; obtain ⟨u', hw''⟩ := hw'; subst hw''; obtain ⟨wd, hbd⟩ := u'; simp only [After.val_mk]))
                    have ld := later hbd
                    go_wp2_with fail
                    go_ret
                    exact ⟨ret_bool hbad.out.symm, below_of⟩
                  rcases m with _ | j
                  · have hok := hide (show okIn xi 0 = true by unfold okIn; rw [hy]; dsimp only; rw [hmc, decide_eq_true (by omega : 0 ≤ yo)]; rfl)
                    unfold InsetE.Has at C3
                    simp only [Nat.zero_mul, Nat.add_zero] at C3
                    have hmi : (0 : Int) < (xi.length : Int) := by omega
                    clear hy hmc
                    go_upto_region 11 with fail
                    refine wp_name ?_
                    intro w2 hw2
                    obtain ⟨B6, l2⟩ := box1 hw2
                    clear hw2
                    have l22 : Later w2 w2 := Later.refl
                    (refine wp_region_after (by kernel_rfl) (by kernel_rfl) ?_
                     repeat (any_goals (first | go_big_quiet_skip | (go_big_quiet_want; go_big_quiet_op; first | go_big_quiet_on | go_big_quiet_call ((first | (go_at_call 46; exact Calls.after (HM2 _)) | (go_at_call 48; exact Calls.after (HC2 _))))) | quiet_step ((first | (go_at_call 46; exact Calls.after (HM2 _)) | (go_at_call 48; exact Calls.after (HC2 _)))) | (refine wpQuiet_step (fun K hK => ?_); go_simp; split <;> (refine hK _ ?_; clear hK K))))
                     all_goals (refine wpQuiet_nil ?_; intro _ hw'; obtain ⟨u', hw''⟩ := hw'; subst hw''; obtain ⟨wd, hbd⟩ := u'; simp only [After.val_mk]))
                    have ld := later hbd
                    go_wp2_with fail
                    go_roundw
                    case rel => exact ⟨1, by omega, by go_num, hide (upto_succ hino.out hok.out), below_of⟩
                    case measure => simp [intOf]; omega
                  · obtain ⟨b4, o4, z, hA, hz, C4⟩ := InsetE.get (F1 wr) (show j < xi.length by omega)
                    injection hA with hA
                    injection hA with hA1 hA2
                    subst hA1 hA2
                    obtain ⟨zc, zn, zo⟩ := z
                    obtain ⟨cv, hcv⟩ : ∃ cv, cv = cmpIn ⟨zc, zn, zo⟩ ⟨yc, yn, yo⟩ := ⟨_, rfl⟩
                    have HC2 : ∀ u, Calls Try.prog 48 #[.agg #[.int .i64 zc, .int .u64 zn, .int .i64 zo], .agg #[.int .i64 yc, .int .u64 yn, .int .i64 yo]] u fun r w' => r = .returned (.int .i64 cv) ∧ Below u.heap.size u w' := fun u => by rw [hcv]; exact (cmpIn_any ⟨zc, zn, zo⟩ ⟨yc, yn, yo⟩ u).mono fun r w' h => ⟨h.1, h.2.below⟩
                    have hlx : decide (lexN zc zn yc yn) = decide (cv < 0) := by rw [hcv]; exact (cmpIn_lt ⟨zc, zn, zo⟩ ⟨yc, yn, yo⟩).symm
                    have hji : (((j + 1 : Nat) : Int) - 1) = (j : Int) := by omega
                    have hj0 : (0 : Int) < ((j + 1 : Nat) : Int) := by omega
                    by_cases hc : 0 ≤ cv
                    · have hbad := hbadI (by unfold okIn; rw [hy]; dsimp only; rw [hz]; dsimp only; rw [hlx, decide_eq_false (by omega : ¬ cv < 0), Bool.and_false])
                      clear hy hmc hz hcv hlx
                      go_upto_region 11 with fail
                      refine wp_name ?_
                      intro w2 hw2
                      obtain ⟨B6, l2⟩ := box1 hw2
                      clear hw2
                      have l22 : Later w2 w2 := Later.refl
                      (refine wp_region_after (by kernel_rfl) (by kernel_rfl) ?_
                       repeat (any_goals (first | go_big_quiet_skip | (go_big_quiet_want; go_big_quiet_op; first | go_big_quiet_on | go_big_quiet_call ((first | (go_at_call 46; exact Calls.after (HM2 _)) | (go_at_call 48; exact Calls.after (HC2 _))))) | quiet_step ((first | (go_at_call 46; exact Calls.after (HM2 _)) | (go_at_call 48; exact Calls.after (HC2 _)))) | (refine wpQuiet_step (fun K hK => ?_); go_simp; split <;> (refine hK _ ?_; clear hK K))))
                       all_goals (refine wpQuiet_nil ?_; intro _ hw'; obtain ⟨u', hw''⟩ := hw'; subst hw''; obtain ⟨wd, hbd⟩ := u'; simp only [After.val_mk]))
                      have ld := later hbd
                      go_wp2_with fail
                      go_ret
                      exact ⟨ret_bool hbad.out.symm, below_of⟩
                    · have hok := hide (show okIn xi (j + 1) = true by unfold okIn; rw [hy]; dsimp only; rw [hz]; dsimp only; rw [hlx, decide_eq_true (by omega : cv < 0), hmc, decide_eq_true (by omega : 0 ≤ yo)]; rfl)
                      clear hy hmc hz hcv hlx
                      go_upto_region 11 with fail
                      refine wp_name ?_
                      intro w2 hw2
                      obtain ⟨B6, l2⟩ := box1 hw2
                      clear hw2
                      have l22 : Later w2 w2 := Later.refl
                      (refine wp_region_after (by kernel_rfl) (by kernel_rfl) ?_
                       repeat (any_goals (first | go_big_quiet_skip | (go_big_quiet_want; go_big_quiet_op; first | go_big_quiet_on | go_big_quiet_call ((first | (go_at_call 46; exact Calls.after (HM2 _)) | (go_at_call 48; exact Calls.after (HC2 _))))) | quiet_step ((first | (go_at_call 46; exact Calls.after (HM2 _)) | (go_at_call 48; exact Calls.after (HC2 _)))) | (refine wpQuiet_step (fun K hK => ?_); go_simp; split <;> (refine hK _ ?_; clear hK K))))
                       all_goals (refine wpQuiet_nil ?_; intro _ hw'; obtain ⟨u', hw''⟩ := hw'; subst hw''; obtain ⟨wd, hbd⟩ := u'; simp only [After.val_mk]))
                      have ld := later hbd
                      go_wp2_with fail
                      go_roundw
                      case rel => exact ⟨j + 1 + 1, by omega, by go_num, hide (upto_succ hino.out hok.out), below_of⟩
                      case measure => simp [intOf]; omega
                · have hmm : m = xi.length := by omega
                  subst hmm
                  have hok := hide (hokA (range_all hino.out))
                  go_wp2_with fail
                  go_roundw
                  case rel => exact ⟨j + 1 + 1, by omega, by go_num, hide (upto_succ Hno.out hok.out), below_of⟩
                  case measure => simp [intOf]; omega
        · have hbad := hbadS (by unfold okS; dsimp only; rw [decide_eq_false hd3]; simp)
          have hd4 : (xd != 1) = true := by simpa using hd3
          clear hcx hmo hx hd3
          go_upto_region 6 with fail
          refine wp_name ?_
          intro w1 hw1
          obtain ⟨B4, l1⟩ := box1 hw1
          clear hw1
          have l11 : Later w1 w1 := Later.refl
          (refine wp_region_after (by kernel_rfl) (by kernel_rfl) ?_
           repeat (any_goals (first | go_big_quiet_skip | (go_big_quiet_want; go_big_quiet_op; first | go_big_quiet_on | go_big_quiet_call ((first | (go_at_call 46; exact Calls.after (HM _)) | (go_at_call 47; exact Calls.after (HC _ _ _))))) | quiet_step ((first | (go_at_call 46; exact Calls.after (HM _)) | (go_at_call 47; exact Calls.after (HC _ _ _)))) | (refine wpQuiet_step (fun K hK => ?_); go_simp; split <;> (refine hK _ ?_; clear hK K))))
           all_goals (refine wpQuiet_nil ?_; intro _ hw'; obtain ⟨u', hw''⟩ := hw'; subst hw''; obtain ⟨wd, hbd⟩ := u'; simp only [After.val_mk]))
          have ld := later hbd
          go_wp2_with fail
          go_ret
          exact ⟨ret_bool hbad.out.symm, below_of⟩
    · have hkk : k = l.length := by omega
      subst hkk
      have hok := hide (show R = true by rw [HR.out]; unfold validS; rw [decide_eq_true (by omega : 0 ≤ ep), HLC.out, decide_eq_true (by omega : l.length ≤ 1024), range_all Hno.out]; rfl)
      go_wp2_with fail
      go_ret
      exact ⟨ret_bool hok.out.symm, below_of⟩
end Go.Proofs.Ytomgdkfoinojiaa
