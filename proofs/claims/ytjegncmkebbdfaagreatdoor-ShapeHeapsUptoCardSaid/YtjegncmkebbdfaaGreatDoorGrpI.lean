/-
  Small texts of this seat, put into one. Conditions stand in each theorem.
-/
import Derived.Test.YtjegncmkebbdfaaGreatDoorGrp30
set_option linter.unusedSimpArgs false
set_option linter.unusedVariables false
namespace Go.Proofs.YtjegncmkebbdfaaGreatDoor
open Go.RowKit
attribute [local go_sem ↓] run_eql_id run_neq_id
attribute [local simp] heap_drew
set_option maxHeartbeats 800000 in
theorem run_eql_ValE (x y : ValE) (w : World) : (binOp .eql 46 x.v y.v).run Tryz.prog w = .ok (.bool (ValE.beq x y)) w := by
  have ht : Tryz.prog.underlying 46 = some (.struct (Tryz.prog.fieldsOf 46)) := by kernel_rfl
  have hp : Tryz.prog.stoodInHeld 46 = false := by kernel_rfl
  have hu := Tryz.underlying46
  rw [run_eql_struct, run_equalIn_struct w 9999 46 _ _ ht hp]
  obtain ⟨fs, hfs⟩ : ∃ fs, Tryz.prog.fieldsOf 46 = fs := ⟨_, rfl⟩
  rw [hfs] at ht ⊢
  rw [hu] at ht
  have ht2 := TypeDesc.struct.inj (Option.some.inj ht)
  subst ht2
  simp only [Op.eqFields, ne_eq]
  simp [go_sem, ValE.beq]
  clear hfs hu ht hp
  by_cases h0 : x.kind = y.kind
  rotate_left
  · rw [if_neg h0]
    simp [beq_eq_false_iff_ne.2 h0]
  rw [if_pos h0]
  have e0 := beq_iff_eq.2 h0
  by_cases h1 : x.int = y.int
  rotate_left
  · rw [if_neg h1]
    simp [beq_eq_false_iff_ne.2 h1]
  rw [if_pos h1]
  have e1 := beq_iff_eq.2 h1
  by_cases h2 : x.refMachine = y.refMachine
  rotate_left
  · rw [if_neg h2]
    simp [beq_eq_false_iff_ne.2 h2]
  rw [if_pos h2]
  have e2 := beq_iff_eq.2 h2
  by_cases h3 : x.refSerial = y.refSerial
  rotate_left
  · rw [if_neg h3]
    simp [beq_eq_false_iff_ne.2 h3]
  rw [if_pos h3]
  have e3 := beq_iff_eq.2 h3
  simp only [e0, e1, e2, e3]
  rfl
set_option maxHeartbeats 800000 in
theorem run_neq_ValE (x y : ValE) (w : World) : (binOp .neq 46 x.v y.v).run Tryz.prog w = .ok (.bool (!ValE.beq x y)) w := by
  have ht : Tryz.prog.underlying 46 = some (.struct (Tryz.prog.fieldsOf 46)) := by kernel_rfl
  have hp : Tryz.prog.stoodInHeld 46 = false := by kernel_rfl
  have hu := Tryz.underlying46
  rw [run_neq_struct, run_equalIn_struct w 9999 46 _ _ ht hp]
  obtain ⟨fs, hfs⟩ : ∃ fs, Tryz.prog.fieldsOf 46 = fs := ⟨_, rfl⟩
  rw [hfs] at ht ⊢
  rw [hu] at ht
  have ht2 := TypeDesc.struct.inj (Option.some.inj ht)
  subst ht2
  simp only [Op.eqFields, ne_eq]
  simp [go_sem, ValE.beq]
  clear hfs hu ht hp
  by_cases h0 : x.kind = y.kind
  rotate_left
  · rw [if_neg h0]
    simp [beq_eq_false_iff_ne.2 h0]
  rw [if_pos h0]
  have e0 := beq_iff_eq.2 h0
  by_cases h1 : x.int = y.int
  rotate_left
  · rw [if_neg h1]
    simp [beq_eq_false_iff_ne.2 h1]
  rw [if_pos h1]
  have e1 := beq_iff_eq.2 h1
  by_cases h2 : x.refMachine = y.refMachine
  rotate_left
  · rw [if_neg h2]
    simp [beq_eq_false_iff_ne.2 h2]
  rw [if_pos h2]
  have e2 := beq_iff_eq.2 h2
  by_cases h3 : x.refSerial = y.refSerial
  rotate_left
  · rw [if_neg h3]
    simp [beq_eq_false_iff_ne.2 h3]
  rw [if_pos h3]
  have e3 := beq_iff_eq.2 h3
  simp only [e0, e1, e2, e3]
  rfl
def validIDB (x : IDE) : Bool := decide (1 ≤ x.machine ∧ x.machine ≤ 8 ∧ 1 ≤ x.serial ∧ x.serial ≤ 1099511627775)
def validValB (v : ValE) : Bool := if v.kind = 0 then ValE.beq v ⟨0, 0, 0, 0⟩ else if v.kind = 1 then (decide (v.ref = ⟨0, 0⟩) && decide (-2305843009213693952 ≤ v.int ∧ v.int ≤ 2305843009213693951)) else if v.kind = 2 then (decide (v.int = 0) && validIDB v.ref) else false
set_option maxHeartbeats 1000000 in
theorem validID_any (x : IDE) (w : World) : Calls Tryz.prog 116 #[x.v] w fun r w' => r = .returned (.bool (validIDB x)) ∧ Below w.heap.size w w' := by
  obtain ⟨V, hV⟩ : ∃ V, V = validIDB x := ⟨_, rfl⟩
  rw [← hV]
  have HV := hide hV
  clear hV
  go_enter Tryz.func116, Tryz.ntmps116
  go_upto_region 1 with fail
  refine wp_name ?_
  intro w0 hw0
  obtain ⟨B0, l0⟩ := box1 hw0
  clear hw0
  by_cases h1 : 1 ≤ x.machine
  · by_cases h2 : x.machine ≤ 8
    · by_cases h3 : 1 ≤ x.serial
      · by_cases h4 : x.serial ≤ 1099511627775
        · have hv := hide (show V = true by rw [HV.out]; unfold validIDB; simp [h1, h2, h3, h4])
          go_wp2_with fail
          go_ret
          exact ⟨ret_bool hv.out.symm, below_of⟩
        · have hv := hide (show V = false by rw [HV.out]; unfold validIDB; simp; omega)
          go_wp2_with fail
          go_ret
          exact ⟨ret_bool hv.out.symm, below_of⟩
      · have hv := hide (show V = false by rw [HV.out]; unfold validIDB; simp; omega)
        go_wp2_with fail
        go_ret
        exact ⟨ret_bool hv.out.symm, below_of⟩
    · have hv := hide (show V = false by rw [HV.out]; unfold validIDB; simp; omega)
      go_wp2_with fail
      go_ret
      exact ⟨ret_bool hv.out.symm, below_of⟩
  · have hv := hide (show V = false by rw [HV.out]; unfold validIDB; simp; omega)
    go_wp2_with fail
    go_ret
    exact ⟨ret_bool hv.out.symm, below_of⟩
set_option maxHeartbeats 2000000 in
theorem validVal_any (v : ValE) (w : World) : Calls Tryz.prog 115 #[v.v] w fun r w' => r = .returned (.bool (validValB v)) ∧ Below w.heap.size w w' := by
  obtain ⟨V, hV⟩ : ∃ V, V = validValB v := ⟨_, rfl⟩
  rw [← hV]
  have HV := hide hV
  clear hV
  have hz := hide (show ideq v.refMachine v.refSerial 0 0 = decide (v.ref = ⟨0, 0⟩) from @ideq_iff v.ref ⟨0, 0⟩)
  go_enter Tryz.func115, Tryz.ntmps115
  go_upto_region 1 with fail
  refine wp_name ?_
  intro w0 hw0
  obtain ⟨B0, l0⟩ := box1 hw0
  clear hw0
  by_cases h0 : v.kind = 0
  · obtain ⟨k, i, m, s⟩ := v
    dsimp only at h0
    subst h0
    have hneq : ∀ u : World, (binOp .eql 46 (.agg #[.int .i64 0, .int .i64 i, .int .i64 m, .int .i64 s]) (.agg #[.int .i64 0, .int .i64 0, .int .i64 0, .int .i64 0])).run Tryz.prog u = .ok (.bool V) u := fun u => by
      rw [HV.out]
      exact run_eql_ValE ⟨0, i, m, s⟩ ⟨0, 0, 0, 0⟩ u
    go_wp2_with fail
    go_ret
    exact ⟨rfl, below_of⟩
  · by_cases h1 : v.kind = 1
    · have hv := hide (show V = (ideq v.refMachine v.refSerial 0 0 && decide (-2305843009213693952 ≤ v.int ∧ v.int ≤ 2305843009213693951)) by rw [HV.out, hz.out]; unfold validValB; rw [if_neg h0, if_pos h1])
      clear h0
      cases hq : ideq v.refMachine v.refSerial 0 0
      · have hv2 := hide (show V = false by rw [hv.out, hq]; rfl)
        go_wp2_with fail
        go_ret
        exact ⟨ret_bool hv2.out.symm, below_of⟩
      · by_cases h2 : -2305843009213693952 ≤ v.int
        · by_cases h3 : v.int ≤ 2305843009213693951
          · have hv2 := hide (show V = true by rw [hv.out, hq]; simp [h2, h3])
            go_wp2_with fail
            go_ret
            exact ⟨ret_bool hv2.out.symm, below_of⟩
          · have hv2 := hide (show V = false by rw [hv.out, hq]; simp; omega)
            go_wp2_with fail
            go_ret
            exact ⟨ret_bool hv2.out.symm, below_of⟩
        · have hv2 := hide (show V = false by rw [hv.out, hq]; simp; omega)
          go_wp2_with fail
          go_ret
          exact ⟨ret_bool hv2.out.symm, below_of⟩
    · by_cases h2 : v.kind = 2
      · have hv := hide (show V = (decide (v.int = 0) && validIDB v.ref) by rw [HV.out]; unfold validValB; rw [if_neg h0, if_neg h1, if_pos h2])
        have HI := fun (u : World) => validID_any v.ref u
        unfold ValE.ref at HI
        clear h0 h1
        by_cases h3 : v.int = 0
        · cases hi : validIDB v.ref
          all_goals
            have hi' := hi
            unfold ValE.ref at hi'
            simp only [hi'] at HI
            have hv2 := hide (show V = _ by rw [hv.out, hi, h3])
            clear hi hi'
            go_wp2_with (go_at_call 116; refine (HI _).mono ?_; rintro r w1 ⟨rfl, hb1⟩; have l1 := later hb1)
            go_ret
            exact ⟨ret_bool (by rw [hv2.out]; rfl), below_of⟩
        · have hv2 := hide (show V = false by rw [hv.out]; simp [h3])
          have h3b : (v.int == 0) = false := by simp [h3]
          go_wp2_with fail
          go_ret
          exact ⟨ret_bool hv2.out.symm, below_of⟩
      · have hv2 := hide (show V = false by rw [HV.out]; unfold validValB; rw [if_neg h0, if_neg h1, if_neg h2])
        have h0b : (v.kind == 0) = false := by simp [h0]
        have h1b : (v.kind == 1) = false := by simp [h1]
        have h2b : (v.kind == 2) = false := by simp [h2]
        go_wp2_with fail
        go_ret
        exact ⟨ret_bool hv2.out.symm, below_of⟩
end Go.Proofs.YtjegncmkebbdfaaGreatDoor

namespace Go.Proofs.YtjegncmkebbdfaaGreatDoor
open Go.RowKit
attribute [local go_sem ↓] run_eql_id run_neq_id
attribute [local simp] heap_drew
def kindB (n : NodeC) : Bool :=
  if n.kind = 0 ∨ n.kind = 1 then decide (1 ≤ n.clas ∧ n.clas ≤ 60 ∧ n.fields.length ≤ 30)
  else if n.kind = 2 then decide (n.clas = 0 ∧ n.fields.length = 1) && n.fields.all (fun v => !decide (v.kind = 1))
  else if n.kind = 3 then decide (0 ≤ n.clas ∧ n.clas ≤ 60 ∧ n.fields.length = 0)
  else false
def validNodeB (n : NodeC) : Bool := n.fields.all validValB && validIDB n.id && kindB n
set_option maxRecDepth 100000 in
set_option maxHeartbeats 4000000 in
theorem validNode_any (m1 m2 mk mc : Int) (mA : Option Addr) (mp : Nat) (mf : List ValE) (w : World) (hs : SlAt ValE.cells 4 w mA mf) (hl : mf.length ≤ 1000000000) :
    Calls Tryz.prog 60 #[.agg #[.int .i64 m1, .int .i64 m2, .int .i64 mk, .int .i64 mc, .slice mA mf.length mp]] w fun r w' => r = .returned (.bool (validNodeB ⟨m1, m2, mk, mc, mf⟩)) ∧ Below w.heap.size w w' := by
  have HS : ∀ u [Later w u], SlAt ValE.cells 4 u mA mf := fun u i => hs.below i.below
  have hl' : mf.length ≤ 9223372036854775807 := by omega
  obtain ⟨R, hR⟩ : ∃ R, R = validNodeB ⟨m1, m2, mk, mc, mf⟩ := ⟨_, rfl⟩
  rw [← hR]
  have HR := hide hR
  clear hR
  go_enter Tryz.func60, Tryz.ntmps60
  go_upto_region 1 with fail
  refine wp_name ?_
  intro w0 hw0
  obtain ⟨B0, l0⟩ := box1 hw0
  clear hw0
  go_wp2_with fail
  go_loopw [3] (fun iv wr => ∃ k : Nat, k ≤ mf.length ∧ iv = .int .i64 k ∧ NoneTo (fun v : ValE => !validValB v) mf k ∧ Below w0.heap.size w0 wr) (fun iv _ => mf.length - (intOf iv).toNat)
  case atStart => exact ⟨0, by omega, rfl, NoneTo.zero, Below.refl _ _⟩
  case round =>
    obtain ⟨k, hk, rfl, hno, hbr⟩ := hrel
    have lr := later hbr
    have Hno := hide hno
    clear hno
    by_cases hlt : k < mf.length
    · obtain ⟨b1, o1, v, rfl, hv, C1⟩ := ValE.get (HS wr) hlt
      have Hv := hide hv
      have hki : (k : Int) < (mf.length : Int) := by omega
      clear hv
      have HC := fun u : World => validVal_any v u
      cases hp : validValB v <;> simp only [hp] at HC
      · have hp2 := hide (show R = false by
          rw [HR.out]; unfold validNodeB
          have : mf.all validValB = false := List.all_eq_false.2 ⟨v, List.mem_of_getElem? Hv.out, by rw [hp]; simp⟩
          dsimp only
          rw [this]; rfl)
        clear hp
        go_wp2_with (go_at_call 115; refine (HC _).mono ?_; rintro r w1 ⟨rfl, hb1⟩; have l1 := later hb1)
        go_ret
        exact ⟨ret_bool hp2.out.symm, below_of⟩
      · have hp2 := hide (show (fun v : ValE => !validValB v) v = false by simp [hp])
        clear hp
        go_wp2_with (go_at_call 115; refine (HC _).mono ?_; rintro r w1 ⟨rfl, hb1⟩; have l1 := later hb1)
        go_roundw
        case rel => exact ⟨k + 1, by omega, by go_num, Hno.out.succ Hv.out hp2.out, below_of⟩
        case measure => simp [intOf]; omega
    · have hk' : k = mf.length := by omega
      subst hk'
      have hall : mf.all validValB = true := by
        rw [List.all_eq_true]
        intro v hv
        obtain ⟨j, hj⟩ := List.getElem?_of_mem hv
        simpa using Hno.out j v (List.getElem?_eq_some_iff.1 hj).1 hj
      have HI := fun (u : World) => validID_any ⟨m1, m2⟩ u
      cases hi : validIDB ⟨m1, m2⟩ <;> simp only [hi] at HI
      · have hp2 := hide (show R = false by rw [HR.out]; unfold validNodeB NodeC.id; dsimp only; rw [hall, hi]; rfl)
        clear hi hall
        go_wp2_with (go_at_call 116; refine (HI _).mono ?_; rintro r w1 ⟨rfl, hb1⟩; have l1 := later hb1)
        go_ret
        exact ⟨ret_bool hp2.out.symm, below_of⟩
      have hp2 := hide (show R = kindB ⟨m1, m2, mk, mc, mf⟩ by rw [HR.out]; unfold validNodeB NodeC.id; dsimp only; rw [hall, hi]; rfl)
      clear hi hall HR
      go_upto_region 8 with (go_at_call 116; refine (HI _).mono ?_; rintro r w1 ⟨rfl, hb1⟩; have l1 := later hb1)
      by_cases h01 : mk = 0 ∨ mk = 1
      · have hp3 := hide (show R = decide (1 ≤ mc ∧ mc ≤ 60 ∧ mf.length ≤ 30) by rw [hp2.out]; unfold kindB; rw [if_pos h01])
        clear hp2
        rcases h01 with rfl | rfl
        all_goals
          by_cases h1 : 1 ≤ mc
          · by_cases h2 : mc ≤ 60
            · by_cases h3 : mf.length ≤ 30
              · have h3i : (mf.length : Int) ≤ 30 := by omega
                have hp4 := hide (show R = true by rw [hp3.out]; simp [h1, h2, h3])
                clear h3
                go_wp2_with fail
                go_ret
                exact ⟨ret_bool hp4.out.symm, below_of⟩
              · have h3i : ¬ (mf.length : Int) ≤ 30 := by omega
                have hp4 := hide (show R = false by rw [hp3.out]; simp; omega)
                clear h3
                go_wp2_with fail
                go_ret
                exact ⟨ret_bool hp4.out.symm, below_of⟩
            · have hp4 := hide (show R = false by rw [hp3.out]; simp; omega)
              go_wp2_with fail
              go_ret
              exact ⟨ret_bool hp4.out.symm, below_of⟩
          · have hp4 := hide (show R = false by rw [hp3.out]; simp; omega)
            go_wp2_with fail
            go_ret
            exact ⟨ret_bool hp4.out.symm, below_of⟩
      · have h0b : (mk == 0) = false := by simp; omega
        have h1b : (mk == 1) = false := by simp; omega
        by_cases h2 : mk = 2
        · have hp3 := hide (show R = (decide (mc = 0 ∧ mf.length = 1) && mf.all (fun v => !decide (v.kind = 1))) by rw [hp2.out]; unfold kindB; rw [if_neg h01, if_pos h2])
          clear hp2 h01
          subst h2
          clear h0b h1b
          by_cases h1 : mc = 0
          · by_cases h3 : mf.length = 1
            · have h3i : ((mf.length : Int) == 1) = true := by simp [h3]
              obtain ⟨b1, o1, v, hv0, hv, C1⟩ := ValE.get (HS w1) (k := 0) (by omega)
              have hkv : mf.all (fun v => !decide (v.kind = 1)) = !decide (v.kind = 1) := by
                obtain ⟨u, rfl⟩ := List.length_eq_one_iff.1 h3
                simp at hv
                subst hv
                simp
              have hp4 := hide (show R = !decide (v.kind = 1) by rw [hp3.out, hkv]; simp [h1, h3])
              have h0 : 0 < mf.length := by omega
              subst hv0
              have C2 : ∀ u [Later w1 u], u.cell? ⟨b1, o1, none⟩ = some (.int .i64 v.kind) := fun u i => by have := (C1 u).1; simpa using this
              clear hv hkv h3 hp3 C1
              subst h1
              by_cases h5 : v.kind = 1
              · have hp5 := hide (show R = false by rw [hp4.out]; simp [h5])
                go_wp2_with fail
                go_ret
                exact ⟨ret_bool hp5.out.symm, below_of⟩
              · have hp5 := hide (show R = true by rw [hp4.out]; simp [h5])
                have h5b : (v.kind != 1) = true := by simp [h5]
                go_wp2_with fail
                go_ret
                exact ⟨ret_bool hp5.out.symm, below_of⟩
            · have h3i : ((mf.length : Int) == 1) = false := by simp; omega
              have hp4 := hide (show R = false by rw [hp3.out]; simp [h3])
              clear h3
              subst h1
              go_wp2_with fail
              go_ret
              exact ⟨ret_bool hp4.out.symm, below_of⟩
          · have hp4 := hide (show R = false by rw [hp3.out]; simp [h1])
            have h1b : (mc == 0) = false := by simp [h1]
            go_wp2_with fail
            go_ret
            exact ⟨ret_bool hp4.out.symm, below_of⟩
        · have h2b : (mk == 2) = false := by simp [h2]
          by_cases h3 : mk = 3
          · have hp3 := hide (show R = decide (0 ≤ mc ∧ mc ≤ 60 ∧ mf.length = 0) by rw [hp2.out]; unfold kindB; rw [if_neg h01, if_neg h2, if_pos h3])
            clear hp2 h01 h2
            subst h3
            clear h0b h1b h2b
            by_cases h1 : 0 ≤ mc
            · by_cases h2 : mc ≤ 60
              · by_cases h3 : mf.length = 0
                · have h3i : ((mf.length : Int) == 0) = true := by simp [h3]
                  have hp4 := hide (show R = true by rw [hp3.out]; simp [h1, h2, h3])
                  clear h3
                  go_wp2_with fail
                  go_ret
                  exact ⟨ret_bool hp4.out.symm, below_of⟩
                · have h3i : ((mf.length : Int) == 0) = false := by rw [beq_eq_false_iff_ne]; omega
                  have hp4 := hide (show R = false by rw [hp3.out]; simp [h3])
                  clear h3
                  go_wp2_with fail
                  go_ret
                  exact ⟨ret_bool hp4.out.symm, below_of⟩
              · have hp4 := hide (show R = false by rw [hp3.out]; simp; omega)
                go_wp2_with fail
                go_ret
                exact ⟨ret_bool hp4.out.symm, below_of⟩
            · have hp4 := hide (show R = false by rw [hp3.out]; simp; omega)
              go_wp2_with fail
              go_ret
              exact ⟨ret_bool hp4.out.symm, below_of⟩
          · have h3b : (mk == 3) = false := by simp [h3]
            have hp4 := hide (show R = false by rw [hp2.out]; unfold kindB; rw [if_neg h01, if_neg h2, if_neg h3])
            clear h01 h2 h3
            go_wp2_with fail
            go_ret
            exact ⟨ret_bool hp4.out.symm, below_of⟩
end Go.Proofs.YtjegncmkebbdfaaGreatDoor

namespace Go.Proofs.YtjegncmkebbdfaaGreatDoor
open Go.RowKit
attribute [local go_sem ↓] run_eql_id run_neq_id
attribute [local simp] heap_drew
/-- The node at k is valid, and it lies past the one before it. -/
def okAtB (l : List NodeC) (k : Nat) : Bool :=
  match l[k]? with
  | none => true
  | some n => validNodeB n && (match k with
    | 0 => true
    | j + 1 => match l[j]? with
      | none => true
      | some m => decide (cmpI m.id n.id < 0))
def valid16B (l : List NodeC) : Bool := (List.range l.length).all (okAtB l)
theorem valid16_bad {l : List NodeC} {k : Nat} (hk : k < l.length) (h : okAtB l k = false) : valid16B l = false :=
  List.all_eq_false.2 ⟨k, List.mem_range.2 hk, by rw [h]; simp⟩
theorem valid16_all {l : List NodeC} (h : ∀ k, k < l.length → okAtB l k = true) : valid16B l = true :=
  List.all_eq_true.2 fun k hk => h k (List.mem_range.1 hk)
theorem upto_succ {p : Nat → Bool} {k : Nat} (h : ∀ j, j < k → p j = true) (hk : p k = true) : ∀ j, j < k + 1 → p j = true := fun j hj => by
  rcases Nat.lt_or_ge j k with h1 | h1
  · exact h j h1
  · have : j = k := by omega
    rw [this]; exact hk
set_option maxRecDepth 100000 in
set_option maxHeartbeats 4000000 in
theorem valid16_any (A : Option Addr) (c : Nat) (l : List NodeE) (w : World) (H : NodesAt w A l) (hl : l.length ≤ 1000000000) (hf : ∀ n ∈ l, n.fields.length ≤ 1000000000) : Calls Tryz.prog 27 #[.agg #[.slice A l.length c]] w fun r w' => r = .returned (.bool (valid16B (conL l))) ∧ Below w.heap.size w w' := by
  have HL := H.later
  have hl' : l.length ≤ 9223372036854775807 := by omega
  obtain ⟨R, hR⟩ : ∃ R, R = valid16B (conL l) := ⟨_, rfl⟩
  rw [← hR]
  have HR := hide hR
  clear hR
  go_enter Tryz.func27, Tryz.ntmps27
  go_upto_region 1 with fail
  refine wp_name ?_
  intro w0 hw0
  obtain ⟨B0, l0⟩ := box1 hw0
  clear hw0
  go_wp2_with fail
  go_loopw [3] (fun iv wr => ∃ k : Nat, k ≤ l.length ∧ iv = .int .i64 k ∧ Hid (∀ j, j < k → okAtB (conL l) j = true) ∧ Below w0.heap.size w0 wr) (fun iv _ => l.length - (intOf iv).toNat)
  case atStart => exact ⟨0, by omega, rfl, hide (fun j h => absurd h (by omega)), Below.refl _ _⟩
  case round =>
    obtain ⟨k, hk, rfl, Hno, hbr⟩ := hrel
    have lr := later hbr
    by_cases hlt : k < l.length
    · have hki : (k : Int) < (l.length : Int) := by omega
      obtain ⟨b1, o1, n, rfl, hn, C1, F1, hf1, hf2⟩ := (HL wr).get hlt
      have hcon : (conL l)[k]? = some n.con := by unfold conL; rw [List.getElem?_map, hn]; rfl
      have hnf := hf n (List.mem_of_getElem? hn)
      have hlc : (conL l).length = l.length := by unfold conL; rw [List.length_map]
      have HV : ∀ u [Later wr u], Calls Tryz.prog 60 #[n.v] u fun r w' => r = .returned (.bool (validNodeB n.con)) ∧ Below u.heap.size u w' := fun u i => validNode_any n.iDMachine n.iDSerial n.kind n.clas n.A n.c n.fields u (F1 u) hnf
      cases hv : validNodeB n.con <;> simp only [hv] at HV
      · have hbad := hide (show R = false by rw [HR.out]; exact valid16_bad (by rw [hlc]; exact hlt) (by unfold okAtB; rw [hcon]; dsimp only; rw [hv]; rfl))
        clear hv hn hcon hlc hnf
        go_upto_region 4 with fail
        (refine wp_region_after (by kernel_rfl) (by kernel_rfl) ?_
         repeat (any_goals (first | go_big_quiet_skip | (go_big_quiet_want; go_big_quiet_op; first | go_big_quiet_on | go_big_quiet_call ((go_at_call 60; exact Calls.after (HV _)))) | quiet_step ((go_at_call 60; exact Calls.after (HV _))) | (refine wpQuiet_step (fun K hK => ?_); go_simp; split <;> (refine hK _ ?_; clear hK K))))
         all_goals (refine wpQuiet_nil ?_; intro _ hw'; obtain ⟨u', hw''⟩ := hw'; subst hw''; obtain ⟨wd, hbd⟩ := u'; simp only [After.val_mk]))
        have ld := later hbd
        go_wp2_with fail
        go_ret
        exact ⟨ret_bool hbad.out.symm, below_of⟩
      · rcases k with _ | j
        · have hok := hide (show okAtB (conL l) 0 = true by unfold okAtB; rw [hcon]; dsimp only; rw [hv]; rfl)
          clear hv hn hcon hlc hnf
          simp only [Nat.zero_mul, Nat.add_zero] at C1
          have hki : (0 : Int) < (l.length : Int) := by omega
          go_upto_region 4 with fail
          (refine wp_region_after (by kernel_rfl) (by kernel_rfl) ?_
           repeat (any_goals (first | go_big_quiet_skip | (go_big_quiet_want; go_big_quiet_op; first | go_big_quiet_on | go_big_quiet_call ((go_at_call 60; exact Calls.after (HV _)))) | quiet_step ((go_at_call 60; exact Calls.after (HV _))) | (refine wpQuiet_step (fun K hK => ?_); go_simp; split <;> (refine hK _ ?_; clear hK K))))
           all_goals (refine wpQuiet_nil ?_; intro _ hw'; obtain ⟨u', hw''⟩ := hw'; subst hw''; obtain ⟨wd, hbd⟩ := u'; simp only [After.val_mk]))
          have ld := later hbd
          go_wp2_with fail
          go_roundw
          case rel => exact ⟨1, by omega, by go_num, hide (upto_succ Hno.out hok.out), below_of⟩
          case measure => simp [intOf]; omega
        · obtain ⟨b2, o2, m, hA, hm, C2, -, -, -⟩ := (HL wr).get (k := j) (by omega)
          injection hA with hA
          injection hA with hA1 hA2
          subst hA1 hA2
          have hcon2 : (conL l)[j]? = some m.con := by unfold conL; rw [List.getElem?_map, hm]; rfl
          obtain ⟨cv, hcv⟩ : ∃ cv, cv = cmpI m.con.id n.con.id := ⟨_, rfl⟩
          have HC : ∀ u, Calls Tryz.prog 61 #[.agg #[.int .i64 m.iDMachine, .int .i64 m.iDSerial], .agg #[.int .i64 n.iDMachine, .int .i64 n.iDSerial]] u fun r w' => r = .returned (.int .i64 cv) ∧ Below u.heap.size u w' := fun u => by rw [hcv]; exact compare16_any m.con.id n.con.id u
          have hji : (((j + 1 : Nat) : Int) - 1) = (j : Int) := by omega
          have hj0 : (0 : Int) < ((j + 1 : Nat) : Int) := by omega
          by_cases hc : 0 ≤ cv
          · have hbad := hide (show R = false by
              rw [HR.out]; refine valid16_bad (k := j + 1) (by rw [hlc]; exact hlt) ?_
              unfold okAtB; rw [hcon]; dsimp only; rw [hv, hcon2]; dsimp only; rw [← hcv]; simp; omega)
            clear hv hn hcon hlc hnf hm hcon2 hcv
            go_upto_region 4 with fail
            (refine wp_region_after (by kernel_rfl) (by kernel_rfl) ?_
             repeat (any_goals (first | go_big_quiet_skip | (go_big_quiet_want; go_big_quiet_op; first | go_big_quiet_on | go_big_quiet_call ((first | (go_at_call 60; exact Calls.after (HV _)) | (go_at_call 61; exact Calls.after (HC _))))) | quiet_step ((first | (go_at_call 60; exact Calls.after (HV _)) | (go_at_call 61; exact Calls.after (HC _)))) | (refine wpQuiet_step (fun K hK => ?_); go_simp; split <;> (refine hK _ ?_; clear hK K))))
             all_goals (refine wpQuiet_nil ?_; intro _ hw'; obtain ⟨u', hw''⟩ := hw'; subst hw''; obtain ⟨wd, hbd⟩ := u'; simp only [After.val_mk]))
            have ld := later hbd
            go_wp2_with fail
            go_ret
            exact ⟨ret_bool hbad.out.symm, below_of⟩
          · have hok := hide (show okAtB (conL l) (j + 1) = true by
              unfold okAtB; rw [hcon]; dsimp only; rw [hv, hcon2]; dsimp only; rw [← hcv]; simp; omega)
            clear hv hn hcon hlc hnf hm hcon2 hcv
            go_upto_region 4 with fail
            (refine wp_region_after (by kernel_rfl) (by kernel_rfl) ?_
             repeat (any_goals (first | go_big_quiet_skip | (go_big_quiet_want; go_big_quiet_op; first | go_big_quiet_on | go_big_quiet_call ((first | (go_at_call 60; exact Calls.after (HV _)) | (go_at_call 61; exact Calls.after (HC _))))) | quiet_step ((first | (go_at_call 60; exact Calls.after (HV _)) | (go_at_call 61; exact Calls.after (HC _)))) | (refine wpQuiet_step (fun K hK => ?_); go_simp; split <;> (refine hK _ ?_; clear hK K))))
             all_goals (refine wpQuiet_nil ?_; intro _ hw'; obtain ⟨u', hw''⟩ := hw'; subst hw''; obtain ⟨wd, hbd⟩ := u'; simp only [After.val_mk]))
            have ld := later hbd
            go_wp2_with fail
            go_roundw
            case rel => exact ⟨j + 1 + 1, by omega, by go_num, hide (upto_succ Hno.out hok.out), below_of⟩
            case measure => simp [intOf]; omega
    · have hk' : k = l.length := by omega
      subst hk'
      have hok := hide (show R = true by rw [HR.out]; exact valid16_all (fun j hj => Hno.out j (by unfold conL at hj; rw [List.length_map] at hj; exact hj)))
      go_wp2_with fail
      go_ret
      exact ⟨ret_bool hok.out.symm, below_of⟩
end Go.Proofs.YtjegncmkebbdfaaGreatDoor
