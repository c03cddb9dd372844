/-
  Small texts of this seat, put into one. Conditions stand in each theorem.
-/
import Derived.Test.YtjegncmkebbdfaaGreatDoorF16Walk1
import Derived.Test.YtjegncmkebbdfaaGreatDoorGrp33
set_option linter.unusedSimpArgs false
set_option linter.unusedVariables false
namespace Go.Proofs.YtjegncmkebbdfaaGreatDoor
open Go.RowKit
attribute [local go_sem ↓] run_eql_id run_neq_id
attribute [local simp] heap_drew
theorem kindB_out {n : NodeC} (h : n.clas < 0 ∨ 60 < n.clas) : kindB n = false := by
  unfold kindB
  split
  · simp; omega
  · split
    · have : ¬ n.clas = 0 := by omega
      simp [this]
    · split
      · simp; omega
      · rfl
set_option maxRecDepth 100000 in
set_option maxHeartbeats 8000000 in
theorem validNodeS_any (m1 m2 mk mc : Int) (mA : Option Addr) (mp : Nat) (mf : List ValE) (w : World) (hs : SlAt ValE.cells 4 w mA mf) (hl : mf.length ≤ 1000000000) :
    Calls Tryz.prog 46 #[.agg #[.int .i64 m1, .int .i64 m2, .int .i64 mk, .int .i64 mc, .slice mA mf.length mp]] w fun r w' => r = .returned (.bool (validNodeB ⟨m1, m2, mk, mc, mf⟩)) ∧ Below w.heap.size w w' := by
  have HS : ∀ u [Later w u], SlAt ValE.cells 4 u mA mf := fun u i => hs.below i.below
  have hl' : mf.length ≤ 9223372036854775807 := by omega
  obtain ⟨R, hR⟩ : ∃ R, R = validNodeB ⟨m1, m2, mk, mc, mf⟩ := ⟨_, rfl⟩
  rw [← hR]
  have HR := hide hR
  clear hR
  have HI := fun (u : World) => named_any ⟨m1, m2⟩ u
  dsimp only [IDE.v] at HI
  cases hi : validIDB ⟨m1, m2⟩ <;> simp only [hi] at HI
  · have hp2 := hide (show R = false by rw [HR.out]; unfold validNodeB NodeC.id; dsimp only; rw [hi]; simp)
    clear hi HR
    go_enter Tryz.func46, Tryz.ntmps46
    go_upto_region 1 with fail
    refine wp_name ?_
    intro w0 hw0
    obtain ⟨B0, l0⟩ := box1 hw0
    clear hw0
    go_wp2_with (go_at_call 93; refine (HI _).mono ?_; rintro r w1 ⟨rfl, hb1⟩; have l1 := later hb1)
    go_ret
    exact ⟨ret_bool hp2.out.symm, below_of⟩
  by_cases hc : mc < 0 ∨ 60 < mc
  · have hp2 := hide (show R = false by rw [HR.out]; unfold validNodeB; rw [kindB_out hc]; simp)
    clear hi HR
    rcases hc with hc | hc
    · go_enter Tryz.func46, Tryz.ntmps46
      go_upto_region 1 with fail
      refine wp_name ?_
      intro w0 hw0
      obtain ⟨B0, l0⟩ := box1 hw0
      clear hw0
      have hc3 : ¬ 60 < mc := by omega
      go_wp2_with (go_at_call 93; refine (HI _).mono ?_; rintro r w1 ⟨rfl, hb1⟩; have l1 := later hb1)
      go_ret
      exact ⟨ret_bool hp2.out.symm, below_of⟩
    · have hc3 : ¬ mc < 0 := by omega
      go_enter Tryz.func46, Tryz.ntmps46
      go_upto_region 1 with fail
      refine wp_name ?_
      intro w0 hw0
      obtain ⟨B0, l0⟩ := box1 hw0
      clear hw0
      go_wp2_with (go_at_call 93; refine (HI _).mono ?_; rintro r w1 ⟨rfl, hb1⟩; have l1 := later hb1)
      go_ret
      exact ⟨ret_bool hp2.out.symm, below_of⟩
  have hc0 : ¬ mc < 0 := by omega
  have hc6 : ¬ 60 < mc := by omega
  clear hc
  go_enter Tryz.func46, Tryz.ntmps46
  go_upto_region 1 with fail
  refine wp_name ?_
  intro w0 hw0
  obtain ⟨B0, l0⟩ := box1 hw0
  clear hw0
  have hi2 := hide hi
  clear hi
  go_wp2_with (go_at_call 93; refine (HI _).mono ?_; rintro r w1 ⟨rfl, hb1⟩; have l1 := later hb1)
  go_loopw [22] (fun iv wr => ∃ k : Nat, k ≤ mf.length ∧ iv = .int .i64 k ∧ NoneTo (fun v : ValE => !validValB v) mf k ∧ Below w1.heap.size w1 wr) (fun iv _ => mf.length - (intOf iv).toNat)
  case atStart => exact ⟨0, by omega, rfl, NoneTo.zero, Below.refl _ _⟩
  case round =>
    obtain ⟨k, hk, rfl, hno, hbr⟩ := hrel
    have lr := later hbr
    have Hno := hide hno
    clear hno
    by_cases hlt : k < mf.length
    · obtain ⟨b1, o1, v, rfl, hv, C1⟩ := ValE.get (HS wr) hlt
      have Hv := hide hv
      have hki : (k : Int) < (mf.length : Int) := by omega
      clear hv
      have HC := fun u : World => validValS_any v u
      cases hp : validValB v <;> simp only [hp] at HC
      · have hp2 := hide (show R = false by
          rw [HR.out]; unfold validNodeB
          have : mf.all validValB = false := List.all_eq_false.2 ⟨v, List.mem_of_getElem? Hv.out, by rw [hp]; simp⟩
          dsimp only
          rw [this]; rfl)
        clear hp
        go_wp2_with (go_at_call 94; refine (HC _).mono ?_; rintro r w2 ⟨rfl, hb2⟩; have l2 := later hb2)
        go_ret
        exact ⟨ret_bool hp2.out.symm, below_of⟩
      · have hp2 := hide (show (fun v : ValE => !validValB v) v = false by simp [hp])
        clear hp
        go_wp2_with (go_at_call 94; refine (HC _).mono ?_; rintro r w2 ⟨rfl, hb2⟩; have l2 := later hb2)
        go_roundw
        case rel => exact ⟨k + 1, by omega, by go_num, Hno.out.succ Hv.out hp2.out, below_of⟩
        case measure => simp [intOf]; omega
    · have hk' : k = mf.length := by omega
      subst hk'
      have hall : mf.all validValB = true := by
        rw [List.all_eq_true]
        intro v hv
        obtain ⟨j, hj⟩ := List.getElem?_of_mem hv
        simpa using Hno.out j v (List.getElem?_eq_some_iff.1 hj).1 hj
      have hp2 := hide (show R = kindB ⟨m1, m2, mk, mc, mf⟩ by rw [HR.out]; unfold validNodeB NodeC.id; dsimp only; rw [hall, hi2.out]; rfl)
      clear hi2 hall HR
      go_upto_region 10 with fail
      by_cases h01 : mk = 0 ∨ mk = 1
      · have hp3 := hide (show R = decide (1 ≤ mc ∧ mc ≤ 60 ∧ mf.length ≤ 30) by rw [hp2.out]; unfold kindB; rw [if_pos h01])
        clear hp2
        rcases h01 with rfl | rfl
        all_goals
          by_cases h1 : 0 < mc
          · by_cases h3 : mf.length ≤ 30
            · have h3i : (mf.length : Int) ≤ 30 := by omega
              have hp4 := hide (show R = true by rw [hp3.out]; simp; omega)
              clear h3
              go_wp2_with fail
              go_ret
              exact ⟨ret_bool hp4.out.symm, below_of⟩
            · have h3i : ¬ (mf.length : Int) ≤ 30 := by omega
              have hp4 := hide (show R = false by rw [hp3.out]; simp; omega)
              clear h3
              go_wp2_with fail
              go_ret
              exact ⟨ret_bool hp4.out.symm, below_of⟩
          · have hp4 := hide (show R = false by rw [hp3.out]; simp; omega)
            go_wp2_with fail
            go_ret
            exact ⟨ret_bool hp4.out.symm, below_of⟩
      · have h0b : (mk == 0) = false := by simp; omega
        have h1b : (mk == 1) = false := by simp; omega
        by_cases h2 : mk = 2
        · have hp3 := hide (show R = (decide (mc = 0 ∧ mf.length = 1) && mf.all (fun v => !decide (v.kind = 1))) by rw [hp2.out]; unfold kindB; rw [if_neg h01, if_pos h2])
          clear hp2 h01
          subst h2
          clear h0b h1b
          by_cases h1 : mc = 0
          · by_cases h3 : mf.length = 1
            · have h3i : ((mf.length : Int) == 1) = true := by simp [h3]
              obtain ⟨b1, o1, v, hv0, hv, C1⟩ := ValE.get (HS wr) (k := 0) (by omega)
              have hkv : mf.all (fun v => !decide (v.kind = 1)) = !decide (v.kind = 1) := by
                obtain ⟨u, rfl⟩ := List.length_eq_one_iff.1 h3
                simp at hv
                subst hv
                simp
              have hp4 := hide (show R = !decide (v.kind = 1) by rw [hp3.out, hkv]; simp [h1, h3])
              have h0 : 0 < mf.length := by omega
              subst hv0
              have C2 : ∀ u [Later wr u], u.cell? ⟨b1, o1, none⟩ = some (.int .i64 v.kind) := fun u i => by have := (C1 u).1; simpa using this
              clear hv hkv h3 hp3 C1
              subst h1
              by_cases h5 : v.kind = 1
              · have hp5 := hide (show R = false by rw [hp4.out]; simp [h5])
                go_wp2_with fail
                go_ret
                exact ⟨ret_bool hp5.out.symm, below_of⟩
              · have hp5 := hide (show R = true by rw [hp4.out]; simp [h5])
                have h5b : (v.kind != 1) = true := by simp [h5]
                go_wp2_with fail
                go_ret
                exact ⟨ret_bool hp5.out.symm, below_of⟩
            · have h3i : ((mf.length : Int) == 1) = false := by simp; omega
              have hp4 := hide (show R = false by rw [hp3.out]; simp [h3])
              clear h3
              subst h1
              go_wp2_with fail
              go_ret
              exact ⟨ret_bool hp4.out.symm, below_of⟩
          · have hp4 := hide (show R = false by rw [hp3.out]; simp [h1])
            have h1b : (mc == 0) = false := by simp [h1]
            go_wp2_with fail
            go_ret
            exact ⟨ret_bool hp4.out.symm, below_of⟩
        · have h2b : (mk == 2) = false := by simp [h2]
          by_cases h3 : mk = 3
          · have hp3 := hide (show R = decide (0 ≤ mc ∧ mc ≤ 60 ∧ mf.length = 0) by rw [hp2.out]; unfold kindB; rw [if_neg h01, if_neg h2, if_pos h3])
            clear hp2 h01 h2
            subst h3
            clear h0b h1b h2b
            by_cases h3 : mf.length = 0
            · have h3i : ((mf.length : Int) == 0) = true := by simp [h3]
              have hp4 := hide (show R = true by rw [hp3.out]; simp [h3]; omega)
              clear h3
              go_wp2_with fail
              go_ret
              exact ⟨ret_bool hp4.out.symm, below_of⟩
            · have h3i : ((mf.length : Int) == 0) = false := by rw [beq_eq_false_iff_ne]; omega
              have hp4 := hide (show R = false by rw [hp3.out]; simp [h3])
              clear h3
              go_wp2_with fail
              go_ret
              exact ⟨ret_bool hp4.out.symm, below_of⟩
          · have h3b : (mk == 3) = false := by simp [h3]
            have hp4 := hide (show R = false by rw [hp2.out]; unfold kindB; rw [if_neg h01, if_neg h2, if_neg h3])
            clear h01 h2 h3
            go_wp2_with fail
            go_ret
            exact ⟨ret_bool hp4.out.symm, below_of⟩
end Go.Proofs.YtjegncmkebbdfaaGreatDoor

namespace Go.Proofs.YtjegncmkebbdfaaGreatDoor
open Go.RowKit
attribute [local go_sem ↓] run_eql_id run_neq_id
attribute [local simp] heap_drew
theorem cmpJ_neg {a b : IDE} : cmpJ a b < 0 ↔ cmpI a b < 0 := by
  have h := cmpJ_lt a b
  unfold Go.Proofs.ltOf at h
  have h1 : cmpJ a b < 0 ↔ ltI a b := by
    unfold ltI
    constructor
    · intro h2; rw [decide_eq_true h2] at h; exact of_decide_eq_true h.symm
    · intro h2; rw [decide_eq_true h2] at h; exact of_decide_eq_true h
  rw [h1]
  unfold cmpI
  constructor
  · intro h2
    rw [if_neg (fun e => by rw [e] at h2; exact ltI_irrefl _ h2), if_pos h2]
    omega
  · intro h2
    split at h2
    · omega
    · split at h2
      · next h3 => exact h3
      · omega
set_option maxHeartbeats 1000000 in
theorem compareN_any (x y : NodeE) (w : World) :
    Calls Tryz.prog 26 #[.agg x.cells.toArray, .agg y.cells.toArray] w fun e w' => e = .returned (.int .i64 (cmpJ x.id y.id)) ∧ Grown w w' := by
  have HO := fun u : World => order_any x.id y.id u
  simp only [IDE.cells, NodeE.id] at HO
  obtain ⟨v, hv⟩ : ∃ v, v = cmpJ x.id y.id := ⟨_, rfl⟩
  unfold NodeE.id at hv
  rw [← hv] at HO
  unfold NodeE.id
  rw [← hv]
  clear hv
  show Calls Tryz.prog 26 #[.agg #[.int .i64 x.iDMachine, .int .i64 x.iDSerial, .int .i64 x.kind, .int .i64 x.clas, .slice x.A x.fields.length x.c], .agg #[.int .i64 y.iDMachine, .int .i64 y.iDSerial, .int .i64 y.kind, .int .i64 y.clas, .slice y.A y.fields.length y.c]] w fun e w' => e = .returned (.int .i64 v) ∧ Grown w w'
  go_enter Tryz.func26, Tryz.ntmps26
  go_upto_region 1 with fail
  refine wp_name ?_
  intro w1 hw1
  have g1 : ∀ b [Gr b w], Gr b w1 := fun b i => by rw [← hw1]; infer_instance
  have c0 : ∀ u [Gr w1 u], u.cell? ⟨w.heap.size, 0, none⟩ = some (.int .i64 x.iDMachine) := Gr.cell (by rw [← hw1]; simp [go_sem])
  have c1 : ∀ u [Gr w1 u], u.cell? ⟨w.heap.size, 1, none⟩ = some (.int .i64 x.iDSerial) := Gr.cell (by rw [← hw1]; simp [go_sem])
  have c2 : ∀ u [Gr w1 u], u.cell? ⟨w.heap.size + 1, 0, none⟩ = some (.int .i64 y.iDMachine) := Gr.cell (by rw [← hw1]; simp [go_sem])
  have c3 : ∀ u [Gr w1 u], u.cell? ⟨w.heap.size + 1, 1, none⟩ = some (.int .i64 y.iDSerial) := Gr.cell (by rw [← hw1]; simp [go_sem])
  clear hw1
  go_wp2_with (go_at_call 50; refine (HO _).mono ?_; rintro r w2 ⟨rfl, hg2⟩; have g2 := gr hg2)
  go_ret
  exact ⟨rfl, (inferInstance : Gr w _).out⟩
set_option maxRecDepth 100000 in
set_option maxHeartbeats 4000000 in
theorem validS_any (A : Option Addr) (c : Nat) (l : List NodeE) (w : World) (H : NodesAt w A l) (hl : l.length ≤ 1000000000) (hf : ∀ n ∈ l, n.fields.length ≤ 1000000000) : Calls Tryz.prog 18 #[.agg #[.slice A l.length c]] w fun r w' => r = .returned (.bool (valid16B (conL l))) ∧ Below w.heap.size w w' := by
  have HL := H.later
  have hl' : l.length ≤ 9223372036854775807 := by omega
  obtain ⟨R, hR⟩ : ∃ R, R = valid16B (conL l) := ⟨_, rfl⟩
  rw [← hR]
  have HR := hide hR
  clear hR
  go_enter Tryz.func18, Tryz.ntmps18
  go_upto_region 1 with fail
  refine wp_name ?_
  intro w0 hw0
  obtain ⟨B0, l0⟩ := box1 hw0
  clear hw0
  go_wp2_with fail
  go_loopw [8] (fun iv wr => ∃ k : Nat, k ≤ l.length ∧ iv = .int .i64 k ∧ Hid (∀ j, j < k → okAtB (conL l) j = true) ∧ Below w0.heap.size w0 wr) (fun iv _ => l.length - (intOf iv).toNat)
  case atStart => exact ⟨0, by omega, rfl, hide (fun j h => absurd h (by omega)), Below.refl _ _⟩
  case round =>
    obtain ⟨k, hk, rfl, Hno, hbr⟩ := hrel
    have lr := later hbr
    by_cases hlt : k < l.length
    · have hki : (k : Int) < (l.length : Int) := by omega
      obtain ⟨b1, o1, n, rfl, hn, C1, F1, hf1, hf2⟩ := (HL wr).get hlt
      have hcon : (conL l)[k]? = some n.con := by unfold conL; rw [List.getElem?_map, hn]; rfl
      have hnf := hf n (List.mem_of_getElem? hn)
      have hlc : (conL l).length = l.length := by unfold conL; rw [List.length_map]
      have HV : ∀ u [Later wr u], Calls Tryz.prog 46 #[n.v] u fun r w' => r = .returned (.bool (validNodeB n.con)) ∧ Below u.heap.size u w' := fun u i => validNodeS_any n.iDMachine n.iDSerial n.kind n.clas n.A n.c n.fields u (F1 u) hnf
      cases hv : validNodeB n.con <;> simp only [hv] at HV
      · have hbad := hide (show R = false by rw [HR.out]; exact valid16_bad (by rw [hlc]; exact hlt) (by unfold okAtB; rw [hcon]; dsimp only; rw [hv]; rfl))
        clear hv hn hcon hlc hnf
        go_upto_region 4 with fail
        refine wp_name ?_
        intro w5 hw5
        obtain ⟨B5, l5⟩ := box1 hw5
        clear hw5
        (refine wp_region_after (by kernel_rfl) (by kernel_rfl) ?_
         repeat (any_goals (first | go_big_quiet_skip | (go_big_quiet_want; go_big_quiet_op; first | go_big_quiet_on | go_big_quiet_call ((go_at_call 46; exact Calls.after (HV _)))) | quiet_step ((go_at_call 46; exact Calls.after (HV _))) | (refine wpQuiet_step (fun K hK => ?_); go_simp; split <;> (refine hK _ ?_; clear hK K))))
         all_goals (refine wpQuiet_nil ?_; intro _ hw'; obtain ⟨u', hw''⟩ := hw'; subst hw''; obtain ⟨wd, hbd⟩ := u'; simp only [After.val_mk]))
        have ld := later hbd
        go_wp2_with fail
        go_ret
        exact ⟨ret_bool hbad.out.symm, below_of⟩
      · rcases k with _ | j
        · have hok := hide (show okAtB (conL l) 0 = true by unfold okAtB; rw [hcon]; dsimp only; rw [hv]; rfl)
          clear hv hn hcon hlc hnf
          simp only [Nat.zero_mul, Nat.add_zero] at C1
          have hki : (0 : Int) < (l.length : Int) := by omega
          go_upto_region 4 with fail
          refine wp_name ?_
          intro w5 hw5
          obtain ⟨B5, l5⟩ := box1 hw5
          clear hw5
          (refine wp_region_after (by kernel_rfl) (by kernel_rfl) ?_
           repeat (any_goals (first | go_big_quiet_skip | (go_big_quiet_want; go_big_quiet_op; first | go_big_quiet_on | go_big_quiet_call ((go_at_call 46; exact Calls.after (HV _)))) | quiet_step ((go_at_call 46; exact Calls.after (HV _))) | (refine wpQuiet_step (fun K hK => ?_); go_simp; split <;> (refine hK _ ?_; clear hK K))))
           all_goals (refine wpQuiet_nil ?_; intro _ hw'; obtain ⟨u', hw''⟩ := hw'; subst hw''; obtain ⟨wd, hbd⟩ := u'; simp only [After.val_mk]))
          have ld := later hbd
          go_wp2_with fail
          go_roundw
          case rel => exact ⟨1, by omega, by go_num, hide (upto_succ Hno.out hok.out), below_of⟩
          case measure => simp [intOf]; omega
        · obtain ⟨b2, o2, m, hA, hm, C2, -, -, -⟩ := (HL wr).get (k := j) (by omega)
          injection hA with hA
          injection hA with hA1 hA2
          subst hA1 hA2
          have hcon2 : (conL l)[j]? = some m.con := by unfold conL; rw [List.getElem?_map, hm]; rfl
          obtain ⟨cv, hcv⟩ : ∃ cv, cv = cmpJ m.id n.id := ⟨_, rfl⟩
          have hcv2 : cv < 0 ↔ cmpI m.con.id n.con.id < 0 := by rw [hcv]; exact cmpJ_neg
          have HC : ∀ u, Calls Tryz.prog 26 #[m.v, n.v] u fun r w' => r = .returned (.int .i64 cv) ∧ Below u.heap.size u w' := fun u => (compareN_any m n u).mono fun e w' h => ⟨by rw [h.1, hcv], h.2.below⟩
          have hji : (((j + 1 : Nat) : Int) - 1) = (j : Int) := by omega
          have hj0 : (0 : Int) < ((j + 1 : Nat) : Int) := by omega
          by_cases hc : 0 ≤ cv
          · have hbad := hide (show R = false by
              rw [HR.out]; refine valid16_bad (k := j + 1) (by rw [hlc]; exact hlt) ?_
              unfold okAtB; rw [hcon]; dsimp only; rw [hv, hcon2]; dsimp only
              have : ¬ cmpI m.con.id n.con.id < 0 := fun h => by have := hcv2.2 h; omega
              simp [this])
            clear hv hn hcon hlc hnf hm hcon2 hcv hcv2
            go_upto_region 4 with fail
            refine wp_name ?_
            intro w5 hw5
            obtain ⟨B5, l5⟩ := box1 hw5
            clear hw5
            (refine wp_region_after (by kernel_rfl) (by kernel_rfl) ?_
             repeat (any_goals (first | go_big_quiet_skip | (go_big_quiet_want; go_big_quiet_op; first | go_big_quiet_on | go_big_quiet_call ((first | (go_at_call 46; exact Calls.after (HV _)) | (go_at_call 26; exact Calls.after (HC _))))) | quiet_step ((first | (go_at_call 46; exact Calls.after (HV _)) | (go_at_call 26; exact Calls.after (HC _)))) | (refine wpQuiet_step (fun K hK => ?_); go_simp; split <;> (refine hK _ ?_; clear hK K))))
             all_goals (refine wpQuiet_nil ?_; intro _ hw'; obtain ⟨u', hw''⟩ := hw'; subst hw''; obtain ⟨wd, hbd⟩ := u'; simp only [After.val_mk]))
            have ld := later hbd
            go_wp2_with fail
            go_ret
            exact ⟨ret_bool hbad.out.symm, below_of⟩
          · have hok := hide (show okAtB (conL l) (j + 1) = true by
              unfold okAtB; rw [hcon]; dsimp only; rw [hv, hcon2]; dsimp only
              have : cmpI m.con.id n.con.id < 0 := hcv2.1 (by omega)
              simp [this])
            clear hv hn hcon hlc hnf hm hcon2 hcv hcv2
            go_upto_region 4 with fail
            refine wp_name ?_
            intro w5 hw5
            obtain ⟨B5, l5⟩ := box1 hw5
            clear hw5
            (refine wp_region_after (by kernel_rfl) (by kernel_rfl) ?_
             repeat (any_goals (first | go_big_quiet_skip | (go_big_quiet_want; go_big_quiet_op; first | go_big_quiet_on | go_big_quiet_call ((first | (go_at_call 46; exact Calls.after (HV _)) | (go_at_call 26; exact Calls.after (HC _))))) | quiet_step ((first | (go_at_call 46; exact Calls.after (HV _)) | (go_at_call 26; exact Calls.after (HC _)))) | (refine wpQuiet_step (fun K hK => ?_); go_simp; split <;> (refine hK _ ?_; clear hK K))))
             all_goals (refine wpQuiet_nil ?_; intro _ hw'; obtain ⟨u', hw''⟩ := hw'; subst hw''; obtain ⟨wd, hbd⟩ := u'; simp only [After.val_mk]))
            have ld := later hbd
            go_wp2_with fail
            go_roundw
            case rel => exact ⟨j + 1 + 1, by omega, by go_num, hide (upto_succ Hno.out hok.out), below_of⟩
            case measure => simp [intOf]; omega
    · have hk' : k = l.length := by omega
      subst hk'
      have hok := hide (show R = true by rw [HR.out]; exact valid16_all (fun j hj => Hno.out j (by unfold conL at hj; rw [List.length_map] at hj; exact hj)))
      go_wp2_with fail
      go_ret
      exact ⟨ret_bool hok.out.symm, below_of⟩
end Go.Proofs.YtjegncmkebbdfaaGreatDoor
