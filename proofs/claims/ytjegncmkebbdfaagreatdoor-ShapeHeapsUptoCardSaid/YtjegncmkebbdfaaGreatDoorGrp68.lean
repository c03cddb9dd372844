/-
  Small texts of this seat, put into one. Conditions stand in each theorem.
-/
import Derived.Test.YtjegncmkebbdfaaGreatDoorF16Plain
import Derived.Test.YtjegncmkebbdfaaGreatDoorLayStr
import Derived.Test.YtjegncmkebbdfaaGreatDoorGrp67
import Derived.Lib.LaidTab
import Derived.Lib.AppendIntMem
import Derived.Lib.ItoaLen
import Derived.Laws.EntriesVeiled
import Derived.Test.YtjegncmkebbdfaaGreatDoorGrp32
set_option linter.unusedSimpArgs false
set_option linter.unusedVariables false
namespace Go.Proofs.YtjegncmkebbdfaaGreatDoor
open Go.RowKit
attribute [local go_sem ↓] run_eql_id run_neq_id
attribute [local simp] heap_drew
/-- The table that strconv reads. -/
abbrev Tab10 (w : World) : Prop := Lib.TabIs Tryz.prog w "internal/strconv.uint64pow10" .u64 Lib.pow10Tab
theorem Tab10.later {w : World} (h : Tab10 w) : ∀ u [Later w u], Tab10 u := fun u i => Lib.tabBelow_of_tabIs h u i.below
abbrev bs (l : List UInt8) : ByteArray := ⟨l.toArray⟩
theorem bs_add (x y : List UInt8) : bs x ++ bs y = bs (x ++ y) := ByteArray.mk_append_mk x y
theorem bs_size (x : List UInt8) : (bs x).size = x.length := by simp [ByteArray.size]
def I64ok (n : Int) : Prop := -9223372036854775808 ≤ n ∧ n ≤ 9223372036854775807
theorem itoa_any {n : Int} (hn : I64ok n) (w : World) (h : Tab10 w) : Calls Tryz.prog 53 #[.int .i64 n] w fun r w' => r = .returned (.string (bs (Lib.itoa n))) ∧ Below w.heap.size w w' :=
  (Tryz.strconv_Itoa n hn.1 hn.2 w h).mono fun e w' ⟨h1, k, os, h2⟩ => ⟨h1, Grown.below ⟨k, os, h2⟩⟩
theorem fmtInt_any {n : Int} (hn : I64ok n) (w : World) (h : Tab10 w) : Calls Tryz.prog 101 #[.int .i64 n, .int .i64 10] w fun r w' => r = .returned (.string (bs (Lib.itoa n))) ∧ Below w.heap.size w w' :=
  (Tryz.strconv_FormatInt_10 n hn.1 hn.2 w h).mono fun e w' ⟨h1, k, os, h2⟩ => ⟨h1, Grown.below ⟨k, os, h2⟩⟩
def idOk (x : IDE) : Prop := I64ok x.machine ∧ I64ok x.serial
set_option maxRecDepth 100000 in
set_option maxHeartbeats 2000000 in
theorem name_any (x : IDE) (hx : idOk x) (w : World) (h : Tab10 w) : Calls Tryz.prog 51 #[x.v] w fun r w' => r = .returned (.string (bs (nameB x))) ∧ Below w.heap.size w w' := by
  have HT := h.later
  have H1 : ∀ u [Later w u], Calls Tryz.prog 53 #[.int .i64 x.machine] u fun r w' => r = .returned (.string (bs (Lib.itoa x.machine))) ∧ Below u.heap.size u w' := fun u i => itoa_any hx.1 u (HT u)
  have H2 : ∀ u [Later w u], Calls Tryz.prog 53 #[.int .i64 x.serial] u fun r w' => r = .returned (.string (bs (Lib.itoa x.serial))) ∧ Below u.heap.size u w' := fun u i => itoa_any hx.2 u (HT u)
  have z1 := Lib.itoa_length_le x.machine hx.1.1 hx.1.2
  have z2 := Lib.itoa_length_le x.serial hx.2.1 hx.2.2
  obtain ⟨s1, e1⟩ : ∃ s, s = Lib.itoa x.machine := ⟨_, rfl⟩
  obtain ⟨s2, e2⟩ : ∃ s, s = Lib.itoa x.serial := ⟨_, rfl⟩
  have hN := hide (show nameB x = [109] ++ s1 ++ [58] ++ s2 by rw [e1, e2]; unfold nameB; simp)
  rw [← e1] at H1 z1
  rw [← e2] at H2 z2
  have S1 : ∀ u : World, (Op.stringOp .add ⟨#[109]⟩ (bs s1)).run Tryz.prog u = .ok (.string (bs ([109] ++ s1))) u := fun u => by rw [← bs_add]; exact run_string_add_sum u _ _ (by rw [bs_size]; simp [ByteArray.size]; omega)
  have S2 : ∀ u : World, (Op.stringOp .add (bs ([109] ++ s1)) ⟨#[58]⟩).run Tryz.prog u = .ok (.string (bs ([109] ++ s1 ++ [58]))) u := fun u => by rw [← bs_add]; exact run_string_add_sum u _ _ (by rw [bs_size]; simp [ByteArray.size]; omega)
  have S3 : ∀ u : World, (Op.stringOp .add (bs ([109] ++ s1 ++ [58])) (bs s2)).run Tryz.prog u = .ok (.string (bs ([109] ++ s1 ++ [58] ++ s2))) u := fun u => by rw [← bs_add _ s2]; exact run_string_add_sum u _ _ (by rw [bs_size, bs_size]; simp; omega)
  obtain ⟨t1, f1⟩ : ∃ t, t = [109] ++ s1 := ⟨_, rfl⟩
  rw [← f1] at S1 S2 S3 hN
  obtain ⟨t2, f2⟩ : ∃ t, t = t1 ++ [58] := ⟨_, rfl⟩
  rw [← f2] at S2 S3 hN
  obtain ⟨t3, f3⟩ : ∃ t, t = t2 ++ s2 := ⟨_, rfl⟩
  rw [← f3] at S3 hN
  generalize bs s1 = b1 at H1 S1
  generalize bs s2 = b2 at H2 S3
  generalize bs t1 = c1 at S1 S2
  generalize bs t2 = c2 at S2 S3
  clear e1 e2 f1 f2 f3 z1 z2
  go_enter Tryz.func51, Tryz.ntmps51
  go_upto_region 1 with fail
  refine wp_name ?_
  intro w0 hw0
  obtain ⟨B0, l0⟩ := box1 hw0
  clear hw0
  (refine wp_region_after (by kernel_rfl) (by kernel_rfl) ?_
   repeat (any_goals (first | go_big_quiet_skip | (go_big_quiet_want; go_big_quiet_op; first | go_big_quiet_on | go_big_quiet_call ((first | (go_at_call_has 53 (x.machine); exact Calls.after (H1 _)) | (go_at_call_has 53 (x.serial); exact Calls.after (H2 _))))) | quiet_step ((first | (go_at_call_has 53 (x.machine); exact Calls.after (H1 _)) | (go_at_call_has 53 (x.serial); exact Calls.after (H2 _)))) | (refine wpQuiet_step (fun K hK => ?_); go_simp; split <;> (refine hK _ ?_; clear hK K))))
   all_goals (refine wpQuiet_nil ?_; intro _ hw'; obtain ⟨u', hw''⟩ := hw'; subst hw''; obtain ⟨wd, hbd⟩ := u'; simp only [After.val_mk]))
  have ld := later hbd
  go_wp2_with fail
  go_ret
  exact ⟨by rw [hN.out]; rfl, below_of⟩
def valOk (v : ValE) : Prop := I64ok v.int ∧ idOk v.ref
set_option maxHeartbeats 2000000 in
theorem text_any (v : ValE) (hv : valOk v) (w : World) (h : Tab10 w) : Calls Tryz.prog 54 #[v.v] w fun r w' => r = .returned (.string (bs (textB v))) ∧ Below w.heap.size w w' := by
  have HT := h.later
  have H1 : ∀ u [Later w u], Calls Tryz.prog 101 #[.int .i64 v.int, .int .i64 10] u fun r w' => r = .returned (.string (bs (Lib.itoa v.int))) ∧ Below u.heap.size u w' := fun u i => fmtInt_any hv.1 u (HT u)
  have H2 : ∀ u [Later w u], Calls Tryz.prog 51 #[.agg #[.int .i64 v.refMachine, .int .i64 v.refSerial]] u fun r w' => r = .returned (.string (bs (nameB v.ref))) ∧ Below u.heap.size u w' := fun u i => name_any v.ref hv.2 u (HT u)
  obtain ⟨R, hR⟩ : ∃ R, R = textB v := ⟨_, rfl⟩
  rw [← hR]
  have HR := hide hR
  clear hR
  go_enter Tryz.func54, Tryz.ntmps54
  go_upto_region 1 with fail
  refine wp_name ?_
  intro w0 hw0
  obtain ⟨B0, l0⟩ := box1 hw0
  clear hw0
  by_cases h1 : v.kind = 1
  · have hv := hide (show Lib.itoa v.int = R by rw [HR.out]; unfold textB; rw [if_pos h1])
    have h1b : (v.kind == 1) = true := by simp [h1]
    clear h1 HR
    go_wp2_with (go_at_call 101; refine (H1 _).mono ?_; rintro r w1 ⟨rfl, hb1⟩; have l1 := later hb1)
    go_ret
    exact ⟨by rw [← hv.out]; rfl, below_of⟩
  · have h1b : (v.kind == 1) = false := by simp [h1]
    by_cases h2 : v.kind = 2
    · have hv := hide (show nameB v.ref = R by rw [HR.out]; unfold textB; rw [if_neg h1, if_pos h2])
      have h2b : (v.kind == 2) = true := by simp [h2]
      clear h1 h2 HR
      go_wp2_with (go_at_call 51; refine (H2 _).mono ?_; rintro r w1 ⟨rfl, hb1⟩; have l1 := later hb1)
      go_ret
      exact ⟨by rw [← hv.out]; rfl, below_of⟩
    · have h2b : (v.kind == 2) = false := by simp [h2]
      have hv := hide (show R = [110, 105, 108] by rw [HR.out]; unfold textB; rw [if_neg h1, if_neg h2])
      clear h1 h2 HR
      go_wp2_with fail
      go_ret
      exact ⟨by rw [hv.out]; rfl, below_of⟩
abbrev fnV (k : Nat) : Value := .func (.func k) #[] #[]
abbrev kindsV : Value := .agg #[.string ⟨#[114, 101, 99, 111, 114, 100]⟩, fnV 153, .string ⟨#[97, 99, 116, 111, 114]⟩, fnV 155, .string ⟨#[119, 101, 97, 107]⟩, fnV 156, .string ⟨#[115, 116, 117, 98]⟩, fnV 154, .string ⟨#[102, 111, 114, 119, 97, 114, 100]⟩, fnV 154]
set_option maxHeartbeats 2000000 in
theorem kinds_any (w : World) : Calls Tryz.prog 99 #[] w fun r w' => r = .returned kindsV ∧ Below w.heap.size w w' := by
  go_enter Tryz.func99, Tryz.ntmps99
  go_wp2_with fail
  refine bodyPost_ret (v := kindsV) (by simp [results, Tryz.results99, go_sem]) rfl ⟨rfl, below_of⟩
set_option maxRecDepth 100000 in
set_option maxHeartbeats 2000000 in
theorem kindNm_any (k : Int) (hk : k = 0 ∨ k = 1 ∨ k = 2 ∨ k = 3 ∨ k = 4) (w : World) : Calls Tryz.prog 52 #[.int .i64 k] w fun r w' => r = .returned (.string (bs (kindNmB k))) ∧ Below w.heap.size w w' := by
  rcases hk with rfl | rfl | rfl | rfl | rfl
  · have HI : ∀ u : World, (Instr.index 143 kindsV (.int .i64 0)).run Tryz.prog u = .ok (.agg #[.string ⟨#[114, 101, 99, 111, 114, 100]⟩, fnV 153]) u := fun u => by kernel_rfl
    have HF : ∀ u : World, (Instr.field 142 (.agg #[.string ⟨#[114, 101, 99, 111, 114, 100]⟩, fnV 153]) 0).run Tryz.prog u = .ok (.string ⟨#[114, 101, 99, 111, 114, 100]⟩) u := fun u => by kernel_rfl
    go_enter Tryz.func52, Tryz.ntmps52
    go_wp2_with (go_at_call 99; refine (kinds_any _).mono ?_; rintro r w1 ⟨rfl, hb1⟩; have l1 := later hb1)
    go_ret
    exact ⟨rfl, below_of⟩
  · have HI : ∀ u : World, (Instr.index 143 kindsV (.int .i64 1)).run Tryz.prog u = .ok (.agg #[.string ⟨#[97, 99, 116, 111, 114]⟩, fnV 155]) u := fun u => by kernel_rfl
    have HF : ∀ u : World, (Instr.field 142 (.agg #[.string ⟨#[97, 99, 116, 111, 114]⟩, fnV 155]) 0).run Tryz.prog u = .ok (.string ⟨#[97, 99, 116, 111, 114]⟩) u := fun u => by kernel_rfl
    go_enter Tryz.func52, Tryz.ntmps52
    go_wp2_with (go_at_call 99; refine (kinds_any _).mono ?_; rintro r w1 ⟨rfl, hb1⟩; have l1 := later hb1)
    go_ret
    exact ⟨rfl, below_of⟩
  · have HI : ∀ u : World, (Instr.index 143 kindsV (.int .i64 2)).run Tryz.prog u = .ok (.agg #[.string ⟨#[119, 101, 97, 107]⟩, fnV 156]) u := fun u => by kernel_rfl
    have HF : ∀ u : World, (Instr.field 142 (.agg #[.string ⟨#[119, 101, 97, 107]⟩, fnV 156]) 0).run Tryz.prog u = .ok (.string ⟨#[119, 101, 97, 107]⟩) u := fun u => by kernel_rfl
    go_enter Tryz.func52, Tryz.ntmps52
    go_wp2_with (go_at_call 99; refine (kinds_any _).mono ?_; rintro r w1 ⟨rfl, hb1⟩; have l1 := later hb1)
    go_ret
    exact ⟨rfl, below_of⟩
  · have HI : ∀ u : World, (Instr.index 143 kindsV (.int .i64 3)).run Tryz.prog u = .ok (.agg #[.string ⟨#[115, 116, 117, 98]⟩, fnV 154]) u := fun u => by kernel_rfl
    have HF : ∀ u : World, (Instr.field 142 (.agg #[.string ⟨#[115, 116, 117, 98]⟩, fnV 154]) 0).run Tryz.prog u = .ok (.string ⟨#[115, 116, 117, 98]⟩) u := fun u => by kernel_rfl
    go_enter Tryz.func52, Tryz.ntmps52
    go_wp2_with (go_at_call 99; refine (kinds_any _).mono ?_; rintro r w1 ⟨rfl, hb1⟩; have l1 := later hb1)
    go_ret
    exact ⟨rfl, below_of⟩
  · have HI : ∀ u : World, (Instr.index 143 kindsV (.int .i64 4)).run Tryz.prog u = .ok (.agg #[.string ⟨#[102, 111, 114, 119, 97, 114, 100]⟩, fnV 154]) u := fun u => by kernel_rfl
    have HF : ∀ u : World, (Instr.field 142 (.agg #[.string ⟨#[102, 111, 114, 119, 97, 114, 100]⟩, fnV 154]) 0).run Tryz.prog u = .ok (.string ⟨#[102, 111, 114, 119, 97, 114, 100]⟩) u := fun u => by kernel_rfl
    go_enter Tryz.func52, Tryz.ntmps52
    go_wp2_with (go_at_call 99; refine (kinds_any _).mono ?_; rintro r w1 ⟨rfl, hb1⟩; have l1 := later hb1)
    go_ret
    exact ⟨rfl, below_of⟩
end Go.Proofs.YtjegncmkebbdfaaGreatDoor

namespace Go.Proofs.YtjegncmkebbdfaaGreatDoor
open Go.RowKit
attribute [local go_sem ↓] run_eql_id run_neq_id
attribute [local simp] heap_drew
/-- A string of a list. -/
def strC (x : List UInt8) : List Value := [.string (bs x)]
theorem strC.enc : Enc strC 1 := ⟨fun _ => rfl, fun x u hu => by simp only [strC, List.mem_cons, List.not_mem_nil, or_false] at hu; subst hu; rfl, by decide⟩
theorem strT : ElemT Tryz.prog 58 9 1 16 := ElemT.mk' (z := .string ⟨#[]⟩) Tryz.underlying58 (by kernel_rfl) rfl
theorem I64ok.of {n : Int} (h : -4611686018427387904 ≤ n) (h' : n ≤ 4611686018427387904) : I64ok n := ⟨by omega, by omega⟩
theorem idOk_of {x : IDE} (h : validIDB x = true) : idOk x := by
  have := of_decide_eq_true h
  exact ⟨I64ok.of (by omega) (by omega), I64ok.of (by omega) (by omega)⟩
theorem valOk_of {v : ValE} (h : validValB v = true) : valOk v := by
  unfold validValB at h
  split at h
  · have := ValE.beq_iff.1 h
    subst this
    exact ⟨I64ok.of (by decide) (by decide), ⟨I64ok.of (by decide) (by decide), I64ok.of (by decide) (by decide)⟩⟩
  · split at h
    · rw [Bool.and_eq_true] at h
      have h1 := of_decide_eq_true h.1
      have h2 := of_decide_eq_true h.2
      refine ⟨I64ok.of (by omega) (by omega), ?_⟩
      unfold idOk
      rw [h1]
      exact ⟨I64ok.of (by decide) (by decide), I64ok.of (by decide) (by decide)⟩
    · split at h
      · rw [Bool.and_eq_true] at h
        have h1 := of_decide_eq_true h.1
        exact ⟨by rw [h1]; exact I64ok.of (by decide) (by decide), idOk_of h.2⟩
      · cases h
theorem nameB_len {x : IDE} (h : idOk x) : (nameB x).length ≤ 44 := by
  have z1 := Lib.itoa_length_le x.machine h.1.1 h.1.2
  have z2 := Lib.itoa_length_le x.serial h.2.1 h.2.2
  unfold nameB
  simp only [List.length_cons, List.length_append]
  omega
theorem textB_len {v : ValE} (h : valOk v) : (textB v).length ≤ 44 := by
  unfold textB
  split
  · have := Lib.itoa_length_le v.int h.1.1 h.1.2; omega
  · split
    · exact nameB_len h.2
    · simp
theorem kindNm_len (k : Int) : (kindNmB k).length ≤ 7 := by
  unfold kindNmB
  repeat' split
  all_goals simp
theorem lens_le {r : List (List UInt8)} (h : ∀ x ∈ r, x.length ≤ 44) : Lib.lens r ≤ 44 * r.length := by
  induction r with
  | nil => simp [Lib.lens]
  | cons x r ih =>
    have h1 := ih fun y hy => h y (List.mem_cons_of_mem _ hy)
    have h2 := h x List.mem_cons_self
    unfold Lib.lens at h1 ⊢
    rw [List.map_cons, List.sum_cons, List.length_cons]
    omega
theorem join_len {r : List (List UInt8)} (h : ∀ x ∈ r, x.length ≤ 44) : (Lib.join r [44, 32]).length ≤ 46 * r.length := by
  cases r with
  | nil => rw [Lib.join_nil]; simp
  | cons x r =>
    have h1 := lens_le fun y hy => h y (List.mem_cons_of_mem x hy)
    have h2 := h x List.mem_cons_self
    rw [Lib.join_cons, List.length_append, Lib.joinTail_length]
    simp only [List.length_cons, List.length_nil]
    omega
theorem validNode_more {n : NodeC} (h : validNodeB n = true) : validIDB n.id = true ∧ I64ok n.clas ∧ n.fields.length ≤ 30 := by
  unfold validNodeB at h
  rw [Bool.and_eq_true, Bool.and_eq_true] at h
  obtain ⟨⟨h1, h2⟩, h3⟩ := h
  refine ⟨h2, ?_⟩
  unfold kindB at h3
  split at h3
  · have := of_decide_eq_true h3
    exact ⟨I64ok.of (by omega) (by omega), by omega⟩
  · split at h3
    · rw [Bool.and_eq_true] at h3
      have := of_decide_eq_true h3.1
      exact ⟨I64ok.of (by omega) (by omega), by omega⟩
    · split at h3
      · have := of_decide_eq_true h3
        exact ⟨I64ok.of (by omega) (by omega), by omega⟩
      · cases h3
theorem cat_run (x y : List UInt8) (h : x.length + y.length ≤ 1000000) (u : World) : (Op.stringOp .add (bs x) (bs y)).run Tryz.prog u = .ok (.string (bs (x ++ y))) u := by
  rw [← bs_add]; exact run_string_add_sum u _ _ (by rw [bs_size, bs_size]; omega)
/-- The parts of a line, as they are put together. -/
theorem line_parts (n : NodeC) (hn : validNodeB n = true) : ∃ C1 C2 C3 C4 C5 C6 C7 : ByteArray,
    (∀ u : World, (Op.stringOp .add (bs (nameB n.id)) ⟨#[32]⟩).run Tryz.prog u = .ok (.string C1) u) ∧ (∀ u : World, (Op.stringOp .add C1 (bs (kindNmB n.kind))).run Tryz.prog u = .ok (.string C2) u) ∧
    (∀ u : World, (Op.stringOp .add C2 ⟨#[32]⟩).run Tryz.prog u = .ok (.string C3) u) ∧ (∀ u : World, (Op.stringOp .add C3 (bs (Lib.itoa n.clas))).run Tryz.prog u = .ok (.string C4) u) ∧
    (∀ u : World, (Op.stringOp .add ⟨#[32, 40]⟩ (bs (Lib.join (n.fields.map textB) [44, 32]))).run Tryz.prog u = .ok (.string C5) u) ∧ (∀ u : World, (Op.stringOp .add C5 ⟨#[41]⟩).run Tryz.prog u = .ok (.string C6) u) ∧
    (∀ u : World, (Op.stringOp .add C4 C6).run Tryz.prog u = .ok (.string C7) u) ∧ Hid (n.kind = 3 → C4 = bs (lineB n)) ∧ Hid (n.kind ≠ 3 → C7 = bs (lineB n)) ∧ (Lib.join (n.fields.map textB) [44, 32]).length ≤ 2000 := by
  obtain ⟨m1, m2, m3⟩ := validNode_more hn
  have k3 := (validNode_kind hn).2.2
  have z1 := nameB_len (idOk_of m1)
  have z2 := kindNm_len n.kind
  have z3 := Lib.itoa_length_le n.clas m2.1 m2.2
  have z4 : (Lib.join (n.fields.map textB) [44, 32]).length ≤ 2000 := by
    have := join_len (r := n.fields.map textB) fun x hx => by
      obtain ⟨v, hv, rfl⟩ := List.mem_map.1 hx
      exact textB_len (valOk_of (k3 v hv))
    rw [List.length_map] at this
    omega
  refine ⟨bs (nameB n.id ++ [32]), bs (nameB n.id ++ [32] ++ kindNmB n.kind), bs (nameB n.id ++ [32] ++ kindNmB n.kind ++ [32]), bs (nameB n.id ++ [32] ++ kindNmB n.kind ++ [32] ++ Lib.itoa n.clas), bs ([32, 40] ++ Lib.join (n.fields.map textB) [44, 32]), bs ([32, 40] ++ Lib.join (n.fields.map textB) [44, 32] ++ [41]), bs (nameB n.id ++ [32] ++ kindNmB n.kind ++ [32] ++ Lib.itoa n.clas ++ ([32, 40] ++ Lib.join (n.fields.map textB) [44, 32] ++ [41])), fun u => cat_run _ [32] ?_ u, fun u => cat_run _ _ ?_ u, fun u => cat_run _ [32] ?_ u, fun u => cat_run _ _ ?_ u, fun u => cat_run [32, 40] _ ?_ u, fun u => cat_run _ [41] ?_ u, fun u => cat_run _ _ ?_ u, hide fun hk => ?_, hide fun hk => ?_, z4⟩
  any_goals (simp only [List.length_append, List.length_cons, List.length_nil]; omega)
  · unfold lineB; rw [if_pos hk]; simp
  · unfold lineB; rw [if_neg hk]; simp
theorem joinS_any (A : Option Addr) (c : Nat) (xs : List (List UInt8)) (sep : List UInt8) {b : Nat} (w : World) (ho : Own strC 1 9 b w (.slice A xs.length c) xs) (hl : xs.length ≤ 1000000) (hj : (Lib.join xs sep).length ≤ 1000000) :
    Calls Tryz.prog 55 #[.slice A xs.length c, .string (bs sep)] w fun r w' => r = .returned (.string (bs (Lib.join xs sep))) ∧ Below w.heap.size w w' := by
  obtain ⟨_, hc, hs⟩ := ho.at_ strC.enc
  cases xs with
  | nil =>
    refine (Tryz.strings_Join_none A c (bs sep) w).mono fun e w' ⟨h1, h2⟩ => ⟨h1, by rw [h2]; exact Below.refl _ _⟩
  | cons x r =>
    obtain ⟨bk, o, y, rfl, hb, _, _⟩ := hs.at_ (k := 0) (by simp)
    have hmap : ((x :: r).map bs).map (·.data.toList) = x :: r := by
      rw [List.map_map]
      have : ((fun b : ByteArray => b.data.toList) ∘ bs) = id := rfl
      rw [this, List.map_id]
    have h := Tryz.strings_Join bk o c ((x :: r).map bs) (bs sep) w (fun j s hjs => by
      rw [List.getElem?_map] at hjs
      cases hx : (x :: r)[j]? with
      | none => rw [hx] at hjs; cases hjs
      | some z =>
        rw [hx] at hjs
        injection hjs with hjs
        subst hjs
        obtain ⟨bk', o', y', e, _, hy, hcell⟩ := hs.at_ (List.getElem?_eq_some_iff.1 hx).1
        injection e with e
        injection e with e1 e2
        subst e1 e2
        rw [hx] at hy
        injection hy with hy
        subst hy
        have := hcell 0 _ rfl
        simpa using this) hb (by rw [List.length_map]; omega) (by rw [List.length_map]; exact hc) (by rw [hmap]; show (Lib.join (x :: r) sep).length ≤ _; omega)
    rw [hmap, List.length_map] at h
    exact h
def FmtPost (L : List NodeC) (w : World) (r : Ending) (w' : World) : Prop := ∃ o A c, Hid (o = linesB L) ∧ r = .returned (.slice A o.length c) ∧ Own strC 1 9 w.heap.size w' (.slice A o.length c) o ∧ Below w.heap.size w w'
end Go.Proofs.YtjegncmkebbdfaaGreatDoor
