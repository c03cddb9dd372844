/-
  Contracts of the functions of this seat that each theorem names: what a call returns, and that it writes nothing that was there before. The conditions stand in each theorem.
-/
import Derived.Test.YtjegncmkebbdfaaGreatDoorF16Walk1
set_option linter.unusedSimpArgs false
set_option linter.unusedVariables false
namespace Go.Proofs.YtjegncmkebbdfaaGreatDoor
open Go.RowKit
attribute [local go_sem ↓] run_eql_id run_neq_id
attribute [local simp] heap_drew
theorem kindB_out {n : NodeC} (h : n.clas < 0 ∨ 60 < n.clas) : kindB n = false := by
  unfold kindB
  split
  · simp; omega
  · split
    · have : ¬ n.clas = 0 := by omega
      simp [this]
    · split
      · simp; omega
      · rfl
set_option maxRecDepth 100000 in
set_option maxHeartbeats 8000000 in
theorem validNodeS_any (m1 m2 mk mc : Int) (mA : Option Addr) (mp : Nat) (mf : List ValE) (w : World) (hs : SlAt ValE.cells 4 w mA mf) (hl : mf.length ≤ 1000000000) :
    Calls Tryz.prog 46 #[.agg #[.int .i64 m1, .int .i64 m2, .int .i64 mk, .int .i64 mc, .slice mA mf.length mp]] w fun r w' => r = .returned (.bool (validNodeB ⟨m1, m2, mk, mc, mf⟩)) ∧ Below w.heap.size w w' := by
  have HS : ∀ u [Later w u], SlAt ValE.cells 4 u mA mf := fun u i => hs.below i.below
  have hl' : mf.length ≤ 9223372036854775807 := by omega
  obtain ⟨R, hR⟩ : ∃ R, R = validNodeB ⟨m1, m2, mk, mc, mf⟩ := ⟨_, rfl⟩
  rw [← hR]
  have HR := hide hR
  clear hR
  have HI := fun (u : World) => named_any ⟨m1, m2⟩ u
  dsimp only [IDE.v] at HI
  cases hi : validIDB ⟨m1, m2⟩ <;> simp only [hi] at HI
  · have hp2 := hide (show R = false by rw [HR.out]; unfold validNodeB NodeC.id; dsimp only; rw [hi]; simp)
    clear hi HR
    go_enter Tryz.func46, Tryz.ntmps46
    go_upto_region 1 with fail
    refine wp_name ?_
    intro w0 hw0
    obtain ⟨B0, l0⟩ := box1 hw0
    clear hw0
    go_wp2_with (go_at_call 93; refine (HI _).mono ?_; rintro r w1 ⟨rfl, hb1⟩; have l1 := later hb1)
    go_ret
    exact ⟨ret_bool hp2.out.symm, below_of⟩
  by_cases hc : mc < 0 ∨ 60 < mc
  · have hp2 := hide (show R = false by rw [HR.out]; unfold validNodeB; rw [kindB_out hc]; simp)
    clear hi HR
    rcases hc with hc | hc
    · go_enter Tryz.func46, Tryz.ntmps46
      go_upto_region 1 with fail
      refine wp_name ?_
      intro w0 hw0
      obtain ⟨B0, l0⟩ := box1 hw0
      clear hw0
      have hc3 : ¬ 60 < mc := by omega
      go_wp2_with (go_at_call 93; refine (HI _).mono ?_; rintro r w1 ⟨rfl, hb1⟩; have l1 := later hb1)
      go_ret
      exact ⟨ret_bool hp2.out.symm, below_of⟩
    · have hc3 : ¬ mc < 0 := by omega
      go_enter Tryz.func46, Tryz.ntmps46
      go_upto_region 1 with fail
      refine wp_name ?_
      intro w0 hw0
      obtain ⟨B0, l0⟩ := box1 hw0
      clear hw0
      go_wp2_with (go_at_call 93; refine (HI _).mono ?_; rintro r w1 ⟨rfl, hb1⟩; have l1 := later hb1)
      go_ret
      exact ⟨ret_bool hp2.out.symm, below_of⟩
  have hc0 : ¬ mc < 0 := by omega
  have hc6 : ¬ 60 < mc := by omega
  clear hc
  go_enter Tryz.func46, Tryz.ntmps46
  go_upto_region 1 with fail
  refine wp_name ?_
  intro w0 hw0
  obtain ⟨B0, l0⟩ := box1 hw0
  clear hw0
  have hi2 := hide hi
  clear hi
  go_wp2_with (go_at_call 93; refine (HI _).mono ?_; rintro r w1 ⟨rfl, hb1⟩; have l1 := later hb1)
  go_loopw [22] (fun iv wr => ∃ k : Nat, k ≤ mf.length ∧ iv = .int .i64 k ∧ NoneTo (fun v : ValE => !validValB v) mf k ∧ Below w1.heap.size w1 wr) (fun iv _ => mf.length - (intOf iv).toNat)
  case atStart => exact ⟨0, by omega, rfl, NoneTo.zero, Below.refl _ _⟩
  case round =>
    obtain ⟨k, hk, rfl, hno, hbr⟩ := hrel
    have lr := later hbr
    have Hno := hide hno
    clear hno
    by_cases hlt : k < mf.length
    · obtain ⟨b1, o1, v, rfl, hv, C1⟩ := ValE.get (HS wr) hlt
      have Hv := hide hv
      have hki : (k : Int) < (mf.length : Int) := by omega
      clear hv
      have HC := fun u : World => validValS_any v u
      cases hp : validValB v <;> simp only [hp] at HC
      · have hp2 := hide (show R = false by
          rw [HR.out]; unfold validNodeB
          have : mf.all validValB = false := List.all_eq_false.2 ⟨v, List.mem_of_getElem? Hv.out, by rw [hp]; simp⟩
          dsimp only
          rw [this]; rfl)
        clear hp
        go_wp2_with (go_at_call 94; refine (HC _).mono ?_; rintro r w2 ⟨rfl, hb2⟩; have l2 := later hb2)
        go_ret
        exact ⟨ret_bool hp2.out.symm, below_of⟩
      · have hp2 := hide (show (fun v : ValE => !validValB v) v = false by simp [hp])
        clear hp
        go_wp2_with (go_at_call 94; refine (HC _).mono ?_; rintro r w2 ⟨rfl, hb2⟩; have l2 := later hb2)
        go_roundw
        case rel => exact ⟨k + 1, by omega, by go_num, Hno.out.succ Hv.out hp2.out, below_of⟩
        case measure => simp [intOf]; omega
    · have hk' : k = mf.length := by omega
      subst hk'
      have hall : mf.all validValB = true := by
        rw [List.all_eq_true]
        intro v hv
        obtain ⟨j, hj⟩ := List.getElem?_of_mem hv
        simpa using Hno.out j v (List.getElem?_eq_some_iff.1 hj).1 hj
      have hp2 := hide (show R = kindB ⟨m1, m2, mk, mc, mf⟩ by rw [HR.out]; unfold validNodeB NodeC.id; dsimp only; rw [hall, hi2.out]; rfl)
      clear hi2 hall HR
      go_upto_region 10 with fail
      by_cases h01 : mk = 0 ∨ mk = 1
      · have hp3 := hide (show R = decide (1 ≤ mc ∧ mc ≤ 60 ∧ mf.length ≤ 30) by rw [hp2.out]; unfold kindB; rw [if_pos h01])
        clear hp2
        rcases h01 with rfl | rfl
        all_goals
          by_cases h1 : 0 < mc
          · by_cases h3 : mf.length ≤ 30
            · have h3i : (mf.length : Int) ≤ 30 := by omega
              have hp4 := hide (show R = true by rw [hp3.out]; simp; omega)
              clear h3
              go_wp2_with fail
              go_ret
              exact ⟨ret_bool hp4.out.symm, below_of⟩
            · have h3i : ¬ (mf.length : Int) ≤ 30 := by omega
              have hp4 := hide (show R = false by rw [hp3.out]; simp; omega)
              clear h3
              go_wp2_with fail
              go_ret
              exact ⟨ret_bool hp4.out.symm, below_of⟩
          · have hp4 := hide (show R = false by rw [hp3.out]; simp; omega)
            go_wp2_with fail
            go_ret
            exact ⟨ret_bool hp4.out.symm, below_of⟩
      · have h0b : (mk == 0) = false := by simp; omega
        have h1b : (mk == 1) = false := by simp; omega
        by_cases h2 : mk = 2
        · have hp3 := hide (show R = (decide (mc = 0 ∧ mf.length = 1) && mf.all (fun v => !decide (v.kind = 1))) by rw [hp2.out]; unfold kindB; rw [if_neg h01, if_pos h2])
          clear hp2 h01
          subst h2
          clear h0b h1b
          by_cases h1 : mc = 0
          · by_cases h3 : mf.length = 1
            · have h3i : ((mf.length : Int) == 1) = true := by simp [h3]
              obtain ⟨b1, o1, v, hv0, hv, C1⟩ := ValE.get (HS wr) (k := 0) (by omega)
              have hkv : mf.all (fun v => !decide (v.kind = 1)) = !decide (v.kind = 1) := by
                obtain ⟨u, rfl⟩ := List.length_eq_one_iff.1 h3
                simp at hv
                subst hv
                simp
              have hp4 := hide (show R = !decide (v.kind = 1) by rw [hp3.out, hkv]; simp [h1, h3])
              have h0 : 0 < mf.length := by omega
              subst hv0
              have C2 : ∀ u [Later wr u], u.cell? ⟨b1, o1, none⟩ = some (.int .i64 v.kind) := fun u i => by have := (C1 u).1; simpa using this
              clear hv hkv h3 hp3 C1
              subst h1
              by_cases h5 : v.kind = 1
              · have hp5 := hide (show R = false by rw [hp4.out]; simp [h5])
                go_wp2_with fail
                go_ret
                exact ⟨ret_bool hp5.out.symm, below_of⟩
              · have hp5 := hide (show R = true by rw [hp4.out]; simp [h5])
                have h5b : (v.kind != 1) = true := by simp [h5]
                go_wp2_with fail
                go_ret
                exact ⟨ret_bool hp5.out.symm, below_of⟩
            · have h3i : ((mf.length : Int) == 1) = false := by simp; omega
              have hp4 := hide (show R = false by rw [hp3.out]; simp [h3])
              clear h3
              subst h1
              go_wp2_with fail
              go_ret
              exact ⟨ret_bool hp4.out.symm, below_of⟩
          · have hp4 := hide (show R = false by rw [hp3.out]; simp [h1])
            have h1b : (mc == 0) = false := by simp [h1]
            go_wp2_with fail
            go_ret
            exact ⟨ret_bool hp4.out.symm, below_of⟩
        · have h2b : (mk == 2) = false := by simp [h2]
          by_cases h3 : mk = 3
          · have hp3 := hide (show R = decide (0 ≤ mc ∧ mc ≤ 60 ∧ mf.length = 0) by rw [hp2.out]; unfold kindB; rw [if_neg h01, if_neg h2, if_pos h3])
            clear hp2 h01 h2
            subst h3
            clear h0b h1b h2b
            by_cases h3 : mf.length = 0
            · have h3i : ((mf.length : Int) == 0) = true := by simp [h3]
              have hp4 := hide (show R = true by rw [hp3.out]; simp [h3]; omega)
              clear h3
              go_wp2_with fail
              go_ret
              exact ⟨ret_bool hp4.out.symm, below_of⟩
            · have h3i : ((mf.length : Int) == 0) = false := by rw [beq_eq_false_iff_ne]; omega
              have hp4 := hide (show R = false by rw [hp3.out]; simp [h3])
              clear h3
              go_wp2_with fail
              go_ret
              exact ⟨ret_bool hp4.out.symm, below_of⟩
          · have h3b : (mk == 3) = false := by simp [h3]
            have hp4 := hide (show R = false by rw [hp2.out]; unfold kindB; rw [if_neg h01, if_neg h2, if_neg h3])
            clear h01 h2 h3
            go_wp2_with fail
            go_ret
            exact ⟨ret_bool hp4.out.symm, below_of⟩
end Go.Proofs.YtjegncmkebbdfaaGreatDoor
