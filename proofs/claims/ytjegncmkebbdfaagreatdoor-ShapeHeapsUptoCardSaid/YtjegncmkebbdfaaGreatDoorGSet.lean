/-
  Contracts of the functions of this seat that each theorem names: what a call returns, and that it writes nothing that was there before. The conditions stand in each theorem.
-/
import Derived.Test.YtjegncmkebbdfaaGreatDoorGrp30
import Derived.Test.YtjegncmkebbdfaaGreatDoorMapLib
set_option linter.unusedSimpArgs false
set_option linter.unusedVariables false
namespace Go.Proofs.YtjegncmkebbdfaaGreatDoor
open Go.RowKit
attribute [local go_sem ↓] run_eql_id run_neq_id
attribute [local go_sem] Oper.semAt_some
abbrev IDE.vv (k : IDE) : Value := .agg #[.int .i64 k.machine, .int .i64 k.serial]
theorem id_agg (x y : IDE) (w : World) : (Op.equal 44 x.vv y.vv).run Tryz.prog w = .ok (decide (x = y)) w := by
  have ht : Tryz.prog.underlying 44 = some (.struct (Tryz.prog.fieldsOf 44)) := by kernel_rfl
  have hp : Tryz.prog.stoodInHeld 44 = false := by kernel_rfl
  have hu := Tryz.underlying44
  have hd : decide (x = y) = x.beq y := by rw [Bool.eq_iff_iff, decide_eq_true_eq]; exact IDE.beq_iff.symm
  rw [hd]
  unfold Op.equal Op.maxDepth
  rw [run_equalIn_struct w 9999 44 _ _ ht hp]
  obtain ⟨fs, hfs⟩ : ∃ fs, Tryz.prog.fieldsOf 44 = fs := ⟨_, rfl⟩
  rw [hfs] at ht ⊢
  rw [hu] at ht
  have ht2 := TypeDesc.struct.inj (Option.some.inj ht)
  subst ht2
  simp only [Op.eqFields, ne_eq]
  simp [go_sem, IDE.beq]
  clear hfs hu ht hp
  by_cases h0 : x.machine = y.machine
  · rw [if_pos h0]
    by_cases h1 : x.serial = y.serial <;> simp [h0, h1]
  · rw [if_neg h0]; simp [beq_eq_false_iff_ne.2 h0]
theorem keyI : KeyL Tryz.prog 44 IDE.vv :=
  keyL_struct Tryz.underlying44 (fun a b h => by
    simp only [Value.agg.injEq, Array.mk.injEq, List.cons.injEq, Value.int.injEq, true_and, and_true] at h
    cases a; cases b; simp_all) (fun a => ⟨_, rfl⟩) (fun w em a => by cases em <;> kernel_rfl) (fun w a b => id_agg a b w) (fun a => by simp [Instr.sameBits])
theorem zeroBool (w : World) : (zeroValue 4).run Tryz.prog w = .ok (.bool false) w := by kernel_rfl
/-- The set of a list's members, as a map. -/
def memM (l : List IDE) (x : IDE) : Option Bool := if x ∈ l then some true else none
theorem memM_snoc {l : List IDE} {y : IDE} : mupd (memM l) y true = memM (l ++ [y]) := by
  funext x
  unfold mupd memM
  by_cases h : x = y
  · simp [h]
  · simp [h]
theorem memM_look (l : List IDE) (x : IDE) : (memM l x).elim (Value.bool false) Value.bool = .bool (decide (x ∈ l)) := by
  unfold memM
  by_cases h : x ∈ l <;> simp [h]
end Go.Proofs.YtjegncmkebbdfaaGreatDoor
