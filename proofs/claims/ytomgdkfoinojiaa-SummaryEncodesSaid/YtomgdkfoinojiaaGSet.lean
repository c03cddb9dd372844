/-
  Contracts of the functions of this seat that each theorem names: what a call returns, and that it writes nothing that was there before. The conditions stand in each theorem.
-/
import Derived.Test.YtomgdkfoinojiaaGWalk1
import Derived.Test.YtomgdkfoinojiaaMapLib
set_option linter.unusedSimpArgs false
set_option linter.unusedVariables false
namespace Go.Proofs.Ytomgdkfoinojiaa
open Go.RowKit
attribute [local go_sem ↓] run_eql_id run_neq_id
attribute [local go_sem] Oper.semAt_some
abbrev IDE.vv (k : IDE) : Value := .agg #[.int .i64 k.machine, .int .i64 k.serial]
theorem id_agg (x y : IDE) (w : World) : (Op.equal 45 x.vv y.vv).run Try.prog w = .ok (decide (x = y)) w := by
  have ht : Try.prog.underlying 45 = some (.struct (Try.prog.fieldsOf 45)) := by kernel_rfl
  have hp : Try.prog.stoodInHeld 45 = false := by kernel_rfl
  have hu := Try.underlying45
  have hd : decide (x = y) = x.beq y := by rw [Bool.eq_iff_iff, decide_eq_true_eq]; exact IDE.beq_iff.symm
  rw [hd]
  unfold Op.equal Op.maxDepth
  rw [run_equalIn_struct w 9999 45 _ _ ht hp]
  obtain ⟨fs, hfs⟩ : ∃ fs, Try.prog.fieldsOf 45 = fs := ⟨_, rfl⟩
  rw [hfs] at ht ⊢
  rw [hu] at ht
  have ht2 := TypeDesc.struct.inj (Option.some.inj ht)
  subst ht2
  simp only [Op.eqFields, ne_eq]
  simp [go_sem, IDE.beq]
  clear hfs hu ht hp
  by_cases h0 : x.machine = y.machine
  · rw [if_pos h0]
    by_cases h1 : x.serial = y.serial <;> simp [h0, h1]
  · rw [if_neg h0]; simp [beq_eq_false_iff_ne.2 h0]
theorem keyI : KeyL Try.prog 45 IDE.vv :=
  keyL_struct Try.underlying45 (fun a b h => by
    simp only [Value.agg.injEq, Array.mk.injEq, List.cons.injEq, Value.int.injEq, true_and, and_true] at h
    cases a; cases b; simp_all) (fun a => ⟨_, rfl⟩) (fun w em a => by cases em <;> kernel_rfl) (fun w a b => id_agg a b w) (fun a => by simp [Instr.sameBits])
theorem zeroBool (w : World) : (zeroValue 4).run Try.prog w = .ok (.bool false) w := by kernel_rfl
/-- The set of a list's members, as a map. -/
def memM (l : List IDE) (x : IDE) : Option Bool := if x ∈ l then some true else none
theorem memM_snoc {l : List IDE} {y : IDE} : mupd (memM l) y true = memM (l ++ [y]) := by
  funext x
  unfold mupd memM
  by_cases h : x = y
  · simp [h]
  · simp [h]
theorem memM_look (l : List IDE) (x : IDE) : (memM l x).elim (Value.bool false) Value.bool = .bool (decide (x ∈ l)) := by
  unfold memM
  by_cases h : x ∈ l <;> simp [h]
def SetPost (l : List IDE) (w : World) (r : Ending) (w' : World) : Prop := ∃ g, r = .returned (.map (some g)) ∧ w.heap.size ≤ g ∧ MapFn IDE.vv Value.bool w' g (memM l) ∧ Below w.heap.size w w'
set_option maxRecDepth 100000 in
set_option maxHeartbeats 4000000 in
theorem set_any (A : Option Addr) (c : Nat) (l : List IDE) (w : World) (hs : SlAt IDE.cells 2 w A l) (hl : l.length ≤ 1000000000) : Calls Try.prog 63 #[.slice A l.length c] w (SetPost l w) := by
  have HS : ∀ u [Later w u], SlAt IDE.cells 2 u A l := fun u i => hs.below i.below
  have hmm := @run_makeMap Try.prog
  have hl' : l.length ≤ 9223372036854775807 := by omega
  go_enter Try.func63, Try.ntmps63
  go_upto_region 2 with fail
  refine wp_name ?_
  intro w1 hw1
  have b1 : w1.heap[w.heap.size]? = some (.map #[] 0) := (by rw [← hw1]; simp only [heap_alloc_if, World.size_alloc]; repeat (first | rw [if_pos trivial] | rw [if_neg (by omega)] | rw [if_pos (by omega)]); try rfl)
  have hz1 : w1.heap.size = w.heap.size + 1 := by rw [← hw1]; simp
  have hb1 : Below w.heap.size w w1 := by rw [← hw1]; exact (by repeat (first | with_reducible exact Below.refl _ _ | (with_reducible refine Below.drew ?_) | (with_reducible refine below_drewN ?_ _) | (with_reducible refine Below.alloc ?_ ?_ _; rotate_left; (first | omega | (simp <;> omega))) | (with_reducible refine Below.setCell ?_ ?_ _; rotate_left; (first | omega | (simp <;> omega)))))
  have hM1 : MapFn IDE.vv Value.bool w1 w.heap.size (memM []) := ⟨#[], 0, b1, by simp, by simp [memM], by simp⟩
  clear hw1 b1 hmm
  have l1 := later hb1
  go_wp2_with fail
  go_loopw [9] (fun i wr => ∃ k : Nat, k ≤ l.length ∧ i = .int .i64 k ∧ MapFn IDE.vv Value.bool wr w.heap.size (memM (l.take k)) ∧ Below w.heap.size w wr ∧ w.heap.size < wr.heap.size) (fun i _ => l.length - (intOf i).toNat)
  case atStart => exact ⟨0, by omega, rfl, hM1, hb1, by omega⟩
  case round =>
    obtain ⟨k, hk, rfl, hM, hbr, hzr⟩ := hrel
    have lr := later hbr
    by_cases hlt : k < l.length
    · obtain ⟨b, o, x, rfl, hx, C1⟩ := IDE.get (HS wr) hlt
      have HT := hide (take_snoc_get hx)
      clear hx
      go_upto_region 5 with fail
      refine wp_name ?_
      intro wx hwx
      obtain ⟨BX, lx⟩ := box1 hwx
      clear hwx
      obtain ⟨U, hU1, hU2, hU3, hU4⟩ := run_store keyI Try.underlying90 hM
      have hF := hide (hU2 wx x true)
      have hU1' := fun (u : World) [Later wr u] => hU1 u x true
      dsimp only [IDE.vv] at hU1'
      clear hU2
      go_wp2_with fail
      go_roundw
      case rel => exact ⟨k + 1, by omega, by go_num, by rw [HT.out, ← memM_snoc]; exact hF.out, putAt_below (show Below w.heap.size w wx from below_of) (Nat.le_refl _), by rw [putAt_size]; have : Below w.heap.size w wx := below_of; have := (lx wr).below.size; omega⟩
      case measure => simp [intOf]; omega
    · have hk' : k = l.length := by omega
      subst hk'
      rw [List.take_length] at hM
      go_wp2_with fail
      go_ret
      exact ⟨w.heap.size, rfl, Nat.le_refl _, hM.later _, below_of⟩
end Go.Proofs.Ytomgdkfoinojiaa
