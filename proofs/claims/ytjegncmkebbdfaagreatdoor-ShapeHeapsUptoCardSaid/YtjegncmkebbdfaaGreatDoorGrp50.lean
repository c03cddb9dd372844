/-
  Small texts of this seat, put into one. Conditions stand in each theorem.
-/
import Derived.Lib.EndianBits
import Derived.Test.YtjegncmkebbdfaaGreatDoorF16Walk1
import Derived.Laws.EntriesVeiled
import Derived.Deep.RegionHeld3
set_option linter.unusedSimpArgs false
set_option linter.unusedVariables false
namespace Go.Proofs.YtjegncmkebbdfaaGreatDoor
open Go
theorem u64_and3 (x : Int) (h₀ : 0 ≤ x) (h₁ : x < 18446744073709551616) : bits .and .u64 x 3 = x % 4 := bits_mask .u64 64 (by decide) wraps_u64 2 (by decide) x h₀ h₁
theorem u64_and63 (x : Int) (h₀ : 0 ≤ x) (h₁ : x < 18446744073709551616) : bits .and .u64 x 63 = x % 64 := bits_mask .u64 64 (by decide) wraps_u64 6 (by decide) x h₀ h₁
theorem u64_and65535 (x : Int) (h₀ : 0 ≤ x) (h₁ : x < 18446744073709551616) : bits .and .u64 x 65535 = x % 65536 := bits_mask .u64 64 (by decide) wraps_u64 16 (by decide) x h₀ h₁
theorem u64_and48 (x : Int) (h₀ : 0 ≤ x) (h₁ : x < 18446744073709551616) : bits .and .u64 x 281474976710655 = x % 281474976710656 := bits_mask .u64 64 (by decide) wraps_u64 48 (by decide) x h₀ h₁
theorem u64_join (i : Nat) (x y : Int) (hx₀ : 0 ≤ x) (hx : x % 2 ^ i = 0) (hx₁ : x < 18446744073709551616) (hy₀ : 0 ≤ y) (hy : y < 2 ^ i) (hy₁ : y < 18446744073709551616) : bits .or .u64 x y = x + y :=
  bits_join .u64 64 (by decide) wraps_u64 i x y hx₀ hx hx₁ hy₀ hy hy₁
/-- A header word. -/
def encH (k c f : Int) : Int := f * 16777216 + c * 256 + k * 4 + 3
theorem encH_or {k c f : Int} (hk : 0 ≤ k ∧ k < 64) (hc : 0 ≤ c ∧ c < 65536) (hf : 0 ≤ f ∧ f < 65536) :
    bits .or .u64 (bits .or .u64 (bits .or .u64 (f * 16777216) (c * 256)) (k * 4)) 3 = encH k c f := by
  rw [u64_join 24 (f * 16777216) (c * 256) (by omega) (by omega) (by omega) (by omega) (by omega) (by omega),
    u64_join 8 (f * 16777216 + c * 256) (k * 4) (by omega) (by omega) (by omega) (by omega) (by omega) (by omega),
    u64_join 2 (f * 16777216 + c * 256 + k * 4) 3 (by omega) (by omega) (by omega) (by omega) (by omega) (by omega)]
  rfl
theorem encH_range {k c f : Int} (hk : 0 ≤ k ∧ k < 64) (hc : 0 ≤ c ∧ c < 65536) (hf : 0 ≤ f ∧ f < 65536) : 0 ≤ encH k c f ∧ encH k c f < 18446744073709551616 := by
  unfold encH; omega
theorem encH_kind {k c f : Int} (hk : 0 ≤ k ∧ k < 64) (hc : 0 ≤ c ∧ c < 65536) (hf : 0 ≤ f ∧ f < 65536) : encH k c f / 4 % 64 = k := by unfold encH; omega
theorem encH_class {k c f : Int} (hk : 0 ≤ k ∧ k < 64) (hc : 0 ≤ c ∧ c < 65536) (hf : 0 ≤ f ∧ f < 65536) : encH k c f / 256 % 65536 = c := by unfold encH; omega
theorem encH_fields {k c f : Int} (hk : 0 ≤ k ∧ k < 64) (hc : 0 ≤ c ∧ c < 65536) (hf : 0 ≤ f ∧ f < 65536) : encH k c f / 16777216 % 65536 = f := by unfold encH; omega
end Go.Proofs.YtjegncmkebbdfaaGreatDoor

namespace Go.Proofs.YtjegncmkebbdfaaGreatDoor
open Go.RowKit
attribute [local simp] heap_drew
/-! ### Words -/
def WordOk (x : Int) : Prop := 0 ≤ x ∧ x < 18446744073709551616
def kindW (x : Int) : Int := if x = 0 then 0 else if x % 4 = 1 then 1 else if x % 4 = 2 ∧ x / 4 ≤ 4294967295 then 2 else if x % 4 = 3 then 3 else -1
/-- The integer of a word (of one with the tag of integers). -/
def intW (x : Int) : Int := if x / 4 < 2305843009213693952 then x / 4 else x / 4 - 4611686018427387904
theorem kindW_two {x : Int} (h : kindW x = 2) : x % 4 = 2 ∧ x / 4 ≤ 4294967295 := by
  unfold kindW at h
  split at h
  · omega
  · split at h
    · omega
    · split at h
      · assumption
      · split at h <;> omega
set_option maxHeartbeats 2000000 in
theorem kind_any (x : Int) (w : World) (hx : WordOk x) : Calls Tryz.prog 118 #[.int .u64 x] w fun r w' => r = .returned (.int .i64 (kindW x)) ∧ Below w.heap.size w w' := by
  have h3 := u64_and3 x hx.1 hx.2
  have Hx := hide hx
  clear hx
  obtain ⟨K, hK⟩ : ∃ K, K = kindW x := ⟨_, rfl⟩
  rw [← hK]
  have HK := hide hK
  clear hK
  by_cases c0 : x = 0
  · obtain rfl : K = 0 := by rw [HK.out, c0]; decide
    subst c0
    go_enter Tryz.func118, Tryz.ntmps118
    go_wp2_with fail
    go_ret
    exact ⟨rfl, below_of⟩
  have c0' : (x == 0) = false := by rw [beq_eq_false_iff_ne]; exact c0
  by_cases c1 : x % 4 = 1
  · obtain rfl : K = 1 := by rw [HK.out]; unfold kindW; rw [if_neg c0, if_pos c1]
    rw [c1] at h3
    go_enter Tryz.func118, Tryz.ntmps118
    go_wp2_with fail
    go_ret
    exact ⟨rfl, below_of⟩
  by_cases c2 : x % 4 = 2
  · rw [c2] at h3
    by_cases c4 : x / 4 ≤ 4294967295
    · obtain rfl : K = 2 := by rw [HK.out]; unfold kindW; rw [if_neg c0, if_neg c1, if_pos ⟨c2, c4⟩]
      go_enter Tryz.func118, Tryz.ntmps118
      go_wp2_with fail
      go_ret
      exact ⟨rfl, below_of⟩
    · obtain rfl : K = -1 := by rw [HK.out]; unfold kindW; rw [if_neg c0, if_neg c1, if_neg (fun h => c4 h.2), if_neg (by omega)]
      go_enter Tryz.func118, Tryz.ntmps118
      go_wp2_with fail
      go_ret
      exact ⟨rfl, below_of⟩
  by_cases c3 : x % 4 = 3
  · obtain rfl : K = 3 := by rw [HK.out]; unfold kindW; rw [if_neg c0, if_neg c1, if_neg (fun h => c2 h.1), if_pos c3]
    rw [c3] at h3
    go_enter Tryz.func118, Tryz.ntmps118
    go_wp2_with fail
    go_ret
    exact ⟨rfl, below_of⟩
  · obtain rfl : K = -1 := by rw [HK.out]; unfold kindW; rw [if_neg c0, if_neg c1, if_neg (fun h => c2 h.1), if_neg c3]
    have c5 : x % 4 = 0 := by have := Hx.out; omega
    rw [c5] at h3
    go_enter Tryz.func118, Tryz.ntmps118
    go_wp2_with fail
    go_ret
    exact ⟨rfl, below_of⟩
set_option maxHeartbeats 2000000 in
theorem address_any (x : Int) (w : World) (hx : WordOk x) : Calls Tryz.prog 141 #[.int .u64 x] w fun r w' => r = .returned (.tuple #[.int .i64 (if kindW x = 2 then x / 4 else 0), .bool (decide (kindW x = 2))]) ∧ Below w.heap.size w w' := by
  have HK : ∀ u : World, Calls Tryz.prog 118 #[.int .u64 x] u fun r w' => r = .returned (.int .i64 (kindW x)) ∧ Below u.heap.size u w' := fun u => kind_any x u hx
  have hk := hide (fun h : kindW x = 2 => (kindW_two h).2)
  have Hx := hide hx
  clear hx
  obtain ⟨K, hK⟩ : ∃ K, kindW x = K := ⟨_, rfl⟩
  rw [hK] at hk ⊢
  simp only [hK] at HK
  clear hK
  by_cases c2 : K = 2
  · have hw : IntKind.i64.wrap (x / 4) = x / 4 := by rw [IntKind.wrap_i64]; have := Hx.out; have := hk.out c2; unfold WordOk at *; omega
    subst c2
    go_enter Tryz.func141, Tryz.ntmps141
    go_wp2_with (go_at_call 118; refine (HK _).mono ?_; rintro r w1 ⟨rfl, hb1⟩; have l1 := later hb1)
    refine bodyPost_ret (results_tmp2 rfl _ _ _) rfl ⟨rfl, below_of⟩
  · have c2' : (K != 2) = true := by rw [bne_iff_ne]; exact c2
    rw [if_neg c2, decide_eq_false c2]
    go_enter Tryz.func141, Tryz.ntmps141
    go_wp2_with (go_at_call 118; refine (HK _).mono ?_; rintro r w1 ⟨rfl, hb1⟩; have l1 := later hb1)
    refine bodyPost_ret (results_tmp2 rfl _ _ _) rfl ⟨rfl, below_of⟩
set_option maxHeartbeats 2000000 in
theorem wordInt_any (x : Int) (w : World) (hx : WordOk x) : Calls Tryz.prog 39 #[.int .u64 x] w fun r w' => r = .returned (.tuple #[.int .i64 (if x % 4 = 1 then intW x else 0), .bool (decide (x % 4 = 1))]) ∧ Below w.heap.size w w' := by
  have h3 := u64_and3 x hx.1 hx.2
  have hI := hide (show wrap64 x / 4 = intW x by unfold intW wrap64; unfold WordOk at hx; split <;> omega)
  clear hx
  by_cases c1 : x % 4 = 1
  · rw [if_pos c1, decide_eq_true c1, ← hI.out]
    rw [c1] at h3
    clear c1
    go_enter Tryz.func39, Tryz.ntmps39
    go_wp2_with fail
    refine bodyPost_ret (results_tmp2 rfl _ _ _) rfl ⟨rfl, below_of⟩
  · rw [if_neg c1, decide_eq_false c1]
    have c1' : (x % 4 != 1) = true := by rw [bne_iff_ne]; exact c1
    go_enter Tryz.func39, Tryz.ntmps39
    go_wp2_with fail
    refine bodyPost_ret (results_tmp2 rfl _ _ _) rfl ⟨rfl, below_of⟩
set_option maxHeartbeats 2000000 in
theorem fromAddress_any (a : Int) (w : World) (h0 : 0 ≤ a) (h1 : a ≤ 4294967295) : Calls Tryz.prog 126 #[.int .i64 a] w fun r w' => r = .returned (.tuple #[.int .u64 (a * 4 + 2), .int .i64 0]) ∧ Below w.heap.size w w' := by
  have hj : bits .or .u64 (a * 4) 2 = a * 4 + 2 := u64_join 2 (a * 4) 2 (by omega) (by omega) (by omega) (by omega) (by omega) (by omega)
  have hw : IntKind.u64.wrap a = a := by rw [IntKind.wrap_u64]; omega
  have hw4 : IntKind.u64.wrap (a * 4) = a * 4 := by rw [IntKind.wrap_u64]; omega
  have h1' : ¬ 4294967295 < a := by omega
  have h0' : ¬ a < 0 := by omega
  go_enter Tryz.func126, Tryz.ntmps126
  go_wp2_with fail
  refine bodyPost_ret (results_tmp2 rfl _ _ _) rfl ⟨rfl, below_of⟩
end Go.Proofs.YtjegncmkebbdfaaGreatDoor

namespace Go.Proofs.YtjegncmkebbdfaaGreatDoor
open Go.RowKit
attribute [local simp] heap_drew
/-! ### Headers -/
structure HdE where
  kind : Int
  clas : Int
  fields : Int
abbrev HdE.v (h : HdE) : Value := .agg #[.int .i64 h.kind, .int .i64 h.clas, .int .i64 h.fields]
structure HdOk (h : HdE) : Prop where
  c : 0 ≤ h.clas ∧ h.clas ≤ 60
  f : 0 ≤ h.fields ∧ h.fields ≤ 30
  k : 0 ≤ h.kind ∧ h.kind ≤ 4
  pos : h.kind = 0 ∨ h.kind = 1 → 0 < h.clas
  weak : h.kind = 2 → h.clas = 0 ∧ h.fields = 1
def HdE.enc (h : HdE) : Int := encH h.kind h.clas h.fields
def hkindsV : Value := .agg #[.string { data := #[114, 101, 99, 111, 114, 100] }, .func (.func 153) #[] #[], .string { data := #[97, 99, 116, 111, 114] }, .func (.func 155) #[] #[], .string { data := #[119, 101, 97, 107] }, .func (.func 156) #[] #[], .string { data := #[115, 116, 117, 98] }, .func (.func 154) #[] #[], .string { data := #[102, 111, 114, 119, 97, 114, 100] }, .func (.func 154) #[] #[]]
set_option maxHeartbeats 2000000 in
theorem hkinds_any (w : World) : Calls Tryz.prog 99 #[] w fun r w' => r = .returned hkindsV ∧ Below w.heap.size w w' := by
  go_enter Tryz.func99, Tryz.ntmps99
  go_wp2_with fail
  refine bodyPost_ret (v := hkindsV) (by simp [results, Tryz.results99, go_sem, hkindsV]) rfl ⟨rfl, below_of⟩
set_option maxHeartbeats 2000000 in
theorem within_any (h : HdE) (w : World) (hc : 0 ≤ h.clas ∧ h.clas ≤ 60) (hf : 0 ≤ h.fields ∧ h.fields ≤ 30) : Calls Tryz.prog 154 #[h.v] w fun r w' => r = .returned (.bool true) ∧ Below w.heap.size w w' := by
  obtain ⟨c1, c2⟩ := hc
  obtain ⟨f1, f2⟩ := hf
  go_enter Tryz.func154, Tryz.ntmps154
  go_upto_region 1 with fail
  refine wp_name ?_
  intro w0 hw0
  obtain ⟨B0, l0⟩ := box1 hw0
  clear hw0
  go_wp2_with fail
  go_ret
  exact ⟨rfl, below_of⟩
set_option maxHeartbeats 2000000 in
theorem kinds1_any (h : HdE) (w : World) (hc : 0 ≤ h.clas ∧ h.clas ≤ 60) (hf : 0 ≤ h.fields ∧ h.fields ≤ 30) (hp : 0 < h.clas) : Calls Tryz.prog 153 #[h.v] w fun r w' => r = .returned (.bool true) ∧ Below w.heap.size w w' := by
  have HW : ∀ u : World, Calls Tryz.prog 154 #[h.v] u fun r w' => r = .returned (.bool true) ∧ Below u.heap.size u w' := fun u => within_any h u hc hf
  go_enter Tryz.func153, Tryz.ntmps153
  go_upto_region 1 with fail
  refine wp_name ?_
  intro w0 hw0
  obtain ⟨B0, l0⟩ := box1 hw0
  clear hw0
  go_wp2_with (go_at_call 154; refine (HW _).mono ?_; rintro r w1 ⟨rfl, hb1⟩; have l1 := later hb1)
  go_ret
  exact ⟨rfl, below_of⟩
set_option maxHeartbeats 2000000 in
theorem kinds2_any (h : HdE) (w : World) (hc : 0 ≤ h.clas ∧ h.clas ≤ 60) (hf : 0 ≤ h.fields ∧ h.fields ≤ 30) (hp : 0 < h.clas) : Calls Tryz.prog 155 #[h.v] w fun r w' => r = .returned (.bool true) ∧ Below w.heap.size w w' := by
  have HW : ∀ u : World, Calls Tryz.prog 154 #[h.v] u fun r w' => r = .returned (.bool true) ∧ Below u.heap.size u w' := fun u => within_any h u hc hf
  go_enter Tryz.func155, Tryz.ntmps155
  go_upto_region 1 with fail
  refine wp_name ?_
  intro w0 hw0
  obtain ⟨B0, l0⟩ := box1 hw0
  clear hw0
  go_wp2_with (go_at_call 154; refine (HW _).mono ?_; rintro r w1 ⟨rfl, hb1⟩; have l1 := later hb1)
  go_ret
  exact ⟨rfl, below_of⟩
set_option maxHeartbeats 2000000 in
theorem kinds3_any (h : HdE) (w : World) (hc : h.clas = 0) (hf : h.fields = 1) : Calls Tryz.prog 156 #[h.v] w fun r w' => r = .returned (.bool true) ∧ Below w.heap.size w w' := by
  go_enter Tryz.func156, Tryz.ntmps156
  go_upto_region 1 with fail
  refine wp_name ?_
  intro w0 hw0
  obtain ⟨B0, l0⟩ := box1 hw0
  clear hw0
  go_wp2_with fail
  go_ret
  exact ⟨rfl, below_of⟩
theorem run_kinds0 {w : World} : (Instr.index 143 (.agg #[.string { data := #[114, 101, 99, 111, 114, 100] }, .func (.func 153) #[] #[], .string { data := #[97, 99, 116, 111, 114] }, .func (.func 155) #[] #[], .string { data := #[119, 101, 97, 107] }, .func (.func 156) #[] #[], .string { data := #[115, 116, 117, 98] }, .func (.func 154) #[] #[], .string { data := #[102, 111, 114, 119, 97, 114, 100] }, .func (.func 154) #[] #[]]) (.int .i64 0)).run Tryz.prog w = .ok (.agg #[.string { data := #[114, 101, 99, 111, 114, 100] }, .func (.func 153) #[] #[]]) w := by kernel_rfl
theorem run_kinds1 {w : World} : (Instr.index 143 (.agg #[.string { data := #[114, 101, 99, 111, 114, 100] }, .func (.func 153) #[] #[], .string { data := #[97, 99, 116, 111, 114] }, .func (.func 155) #[] #[], .string { data := #[119, 101, 97, 107] }, .func (.func 156) #[] #[], .string { data := #[115, 116, 117, 98] }, .func (.func 154) #[] #[], .string { data := #[102, 111, 114, 119, 97, 114, 100] }, .func (.func 154) #[] #[]]) (.int .i64 1)).run Tryz.prog w = .ok (.agg #[.string { data := #[97, 99, 116, 111, 114] }, .func (.func 155) #[] #[]]) w := by kernel_rfl
theorem run_kinds2 {w : World} : (Instr.index 143 (.agg #[.string { data := #[114, 101, 99, 111, 114, 100] }, .func (.func 153) #[] #[], .string { data := #[97, 99, 116, 111, 114] }, .func (.func 155) #[] #[], .string { data := #[119, 101, 97, 107] }, .func (.func 156) #[] #[], .string { data := #[115, 116, 117, 98] }, .func (.func 154) #[] #[], .string { data := #[102, 111, 114, 119, 97, 114, 100] }, .func (.func 154) #[] #[]]) (.int .i64 2)).run Tryz.prog w = .ok (.agg #[.string { data := #[119, 101, 97, 107] }, .func (.func 156) #[] #[]]) w := by kernel_rfl
theorem run_kinds3 {w : World} : (Instr.index 143 (.agg #[.string { data := #[114, 101, 99, 111, 114, 100] }, .func (.func 153) #[] #[], .string { data := #[97, 99, 116, 111, 114] }, .func (.func 155) #[] #[], .string { data := #[119, 101, 97, 107] }, .func (.func 156) #[] #[], .string { data := #[115, 116, 117, 98] }, .func (.func 154) #[] #[], .string { data := #[102, 111, 114, 119, 97, 114, 100] }, .func (.func 154) #[] #[]]) (.int .i64 3)).run Tryz.prog w = .ok (.agg #[.string { data := #[115, 116, 117, 98] }, .func (.func 154) #[] #[]]) w := by kernel_rfl
theorem run_kinds4 {w : World} : (Instr.index 143 (.agg #[.string { data := #[114, 101, 99, 111, 114, 100] }, .func (.func 153) #[] #[], .string { data := #[97, 99, 116, 111, 114] }, .func (.func 155) #[] #[], .string { data := #[119, 101, 97, 107] }, .func (.func 156) #[] #[], .string { data := #[115, 116, 117, 98] }, .func (.func 154) #[] #[], .string { data := #[102, 111, 114, 119, 97, 114, 100] }, .func (.func 154) #[] #[]]) (.int .i64 4)).run Tryz.prog w = .ok (.agg #[.string { data := #[102, 111, 114, 119, 97, 114, 100] }, .func (.func 154) #[] #[]]) w := by kernel_rfl
theorem run_kindsF {s : ByteArray} {n : Nat} {w : World} : (Instr.field 142 (.agg #[.string s, .func (.func n) #[] #[]]) 1).run Tryz.prog w = .ok (.func (.func n) #[] #[]) w := by kernel_rfl
attribute [local go_sem ↓] run_kindsF run_kinds0 run_kinds1 run_kinds2 run_kinds3 run_kinds4
set_option maxRecDepth 100000 in
set_option maxHeartbeats 4000000 in
theorem hvalid_any (h : HdE) (w : World) (H : HdOk h) : Calls Tryz.prog 69 #[h.v] w fun r w' => r = .returned (.bool true) ∧ Below w.heap.size w w' := by
  have HK := fun u : World => hkinds_any u
  unfold hkindsV at HK
  have hk := H.k
  by_cases k0 : h.kind = 0
  · have HW := fun u : World => kinds1_any h u H.c H.f (H.pos (.inl k0))
    clear H hk
    obtain ⟨k, c, f⟩ := h
    simp only at k0
    subst k0
    go_enter Tryz.func69, Tryz.ntmps69
    go_upto_region 1 with fail
    refine wp_name ?_
    intro w0 hw0
    obtain ⟨B0, l0⟩ := box1 hw0
    clear hw0
    have l00 : Later w0 w0 := Later.refl
    go_region_held3 (fun w' => ∀ b [Later b w0], Later b w') ((intro b _; infer_instance)) ((first | (go_at_call 99; refine (HK _).mono ?_; rintro r w1 ⟨rfl, hb1⟩; have l1 := later hb1) | (go_at_call 153; refine (HW _).mono ?_; rintro r w2 ⟨rfl, hb2⟩; have l2 := later hb2)))
    go_wp2_with fail
    go_ret
    exact ⟨rfl, below_of⟩
  by_cases k1 : h.kind = 1
  · have HW := fun u : World => kinds2_any h u H.c H.f (H.pos (.inr k1))
    clear H hk
    obtain ⟨k, c, f⟩ := h
    simp only at k1
    subst k1
    go_enter Tryz.func69, Tryz.ntmps69
    go_upto_region 1 with fail
    refine wp_name ?_
    intro w0 hw0
    obtain ⟨B0, l0⟩ := box1 hw0
    clear hw0
    have l00 : Later w0 w0 := Later.refl
    go_region_held3 (fun w' => ∀ b [Later b w0], Later b w') ((intro b _; infer_instance)) ((first | (go_at_call 99; refine (HK _).mono ?_; rintro r w1 ⟨rfl, hb1⟩; have l1 := later hb1) | (go_at_call 155; refine (HW _).mono ?_; rintro r w2 ⟨rfl, hb2⟩; have l2 := later hb2)))
    go_wp2_with fail
    go_ret
    exact ⟨rfl, below_of⟩
  by_cases k2 : h.kind = 2
  · have HW := fun u : World => kinds3_any h u (H.weak k2).1 (H.weak k2).2
    clear H hk
    obtain ⟨k, c, f⟩ := h
    simp only at k2
    subst k2
    go_enter Tryz.func69, Tryz.ntmps69
    go_upto_region 1 with fail
    refine wp_name ?_
    intro w0 hw0
    obtain ⟨B0, l0⟩ := box1 hw0
    clear hw0
    have l00 : Later w0 w0 := Later.refl
    go_region_held3 (fun w' => ∀ b [Later b w0], Later b w') ((intro b _; infer_instance)) ((first | (go_at_call 99; refine (HK _).mono ?_; rintro r w1 ⟨rfl, hb1⟩; have l1 := later hb1) | (go_at_call 156; refine (HW _).mono ?_; rintro r w2 ⟨rfl, hb2⟩; have l2 := later hb2)))
    go_wp2_with fail
    go_ret
    exact ⟨rfl, below_of⟩
  have HW := fun u : World => within_any h u H.c H.f
  by_cases k3 : h.kind = 3
  · clear H hk
    obtain ⟨k, c, f⟩ := h
    simp only at k3
    subst k3
    go_enter Tryz.func69, Tryz.ntmps69
    go_upto_region 1 with fail
    refine wp_name ?_
    intro w0 hw0
    obtain ⟨B0, l0⟩ := box1 hw0
    clear hw0
    have l00 : Later w0 w0 := Later.refl
    go_region_held3 (fun w' => ∀ b [Later b w0], Later b w') ((intro b _; infer_instance)) ((first | (go_at_call 99; refine (HK _).mono ?_; rintro r w1 ⟨rfl, hb1⟩; have l1 := later hb1) | (go_at_call 154; refine (HW _).mono ?_; rintro r w2 ⟨rfl, hb2⟩; have l2 := later hb2)))
    go_wp2_with fail
    go_ret
    exact ⟨rfl, below_of⟩
  · have k4 : h.kind = 4 := by omega
    clear H hk
    obtain ⟨k, c, f⟩ := h
    simp only at k4
    subst k4
    go_enter Tryz.func69, Tryz.ntmps69
    go_upto_region 1 with fail
    refine wp_name ?_
    intro w0 hw0
    obtain ⟨B0, l0⟩ := box1 hw0
    clear hw0
    have l00 : Later w0 w0 := Later.refl
    go_region_held3 (fun w' => ∀ b [Later b w0], Later b w') ((intro b _; infer_instance)) ((first | (go_at_call 99; refine (HK _).mono ?_; rintro r w1 ⟨rfl, hb1⟩; have l1 := later hb1) | (go_at_call 154; refine (HW _).mono ?_; rintro r w2 ⟨rfl, hb2⟩; have l2 := later hb2)))
    go_wp2_with fail
    go_ret
    exact ⟨rfl, below_of⟩
set_option maxHeartbeats 4000000 in
theorem hencode_any (h : HdE) (w : World) (H : HdOk h) : Calls Tryz.prog 120 #[h.v] w fun r w' => r = .returned (.tuple #[.int .u64 h.enc, .int .i64 0]) ∧ Below w.heap.size w w' := by
  have HV := fun u : World => hvalid_any h u H
  have hk := H.k
  have hc := H.c
  have hf := H.f
  have hE := encH_or (k := h.kind) (c := h.clas) (f := h.fields) (by omega) (by omega) (by omega)
  have w1 : IntKind.u64.wrap h.fields = h.fields := by rw [IntKind.wrap_u64]; omega
  have w2 : IntKind.u64.wrap h.clas = h.clas := by rw [IntKind.wrap_u64]; omega
  have w3 : IntKind.u64.wrap h.kind = h.kind := by rw [IntKind.wrap_u64]; omega
  have w4 : IntKind.u64.wrap (h.fields * 16777216) = h.fields * 16777216 := by rw [IntKind.wrap_u64]; omega
  have w5 : IntKind.u64.wrap (h.clas * 256) = h.clas * 256 := by rw [IntKind.wrap_u64]; omega
  have w6 : IntKind.u64.wrap (h.kind * 4) = h.kind * 4 := by rw [IntKind.wrap_u64]; omega
  unfold HdE.enc
  rw [← hE]
  clear hE hk hc hf H
  go_enter Tryz.func120, Tryz.ntmps120
  go_upto_region 1 with fail
  refine wp_name ?_
  intro w0 hw0
  obtain ⟨B0, l0⟩ := box1 hw0
  clear hw0
  go_wp2_with (go_at_call 69; refine (HV _).mono ?_; rintro r w1 ⟨rfl, hb1⟩; have l1 := later hb1)
  exact bodyPost_ret (results_tmp2 rfl _ _ _) rfl ⟨rfl, below_of⟩
end Go.Proofs.YtjegncmkebbdfaaGreatDoor

namespace Go.Proofs.YtjegncmkebbdfaaGreatDoor
open Go.RowKit
attribute [local simp] heap_drew
theorem HdE.ext' {h k : HdE} (h1 : h.kind = k.kind) (h2 : h.clas = k.clas) (h3 : h.fields = k.fields) : h = k := by cases h; cases k; simp_all
theorem HdE.enc_ok {h : HdE} (H : HdOk h) : WordOk h.enc := encH_range (by have := H.k; omega) (by have := H.c; omega) (by have := H.f; omega)
set_option maxHeartbeats 4000000 in
theorem hdecode_any (h : HdE) (w : World) (H : HdOk h) : Calls Tryz.prog 140 #[.int .u64 h.enc] w fun r w' => r = .returned (.tuple #[h.v, .int .i64 0]) ∧ Below w.heap.size w w' := by
  have HE := fun u : World => hencode_any h u H
  have hk := H.k
  have hc := H.c
  have hf := H.f
  have hr := HdE.enc_ok H
  obtain ⟨x, hx⟩ : ∃ x, x = h.enc := ⟨_, rfl⟩
  rw [← hx] at hr ⊢
  simp only [← hx] at HE
  have h1 : x / 4 % 64 = h.kind := by rw [hx]; exact encH_kind (by omega) (by omega) (by omega)
  have h2 : x / 256 % 65536 = h.clas := by rw [hx]; exact encH_class (by omega) (by omega) (by omega)
  have h3 : x / 16777216 % 65536 = h.fields := by rw [hx]; exact encH_fields (by omega) (by omega) (by omega)
  have b1 : bits .and .u64 (x / 4) 63 = h.kind := by unfold WordOk at hr; rw [u64_and63 _ (by omega) (by omega), h1]
  have b2 : bits .and .u64 (x / 256) 65535 = h.clas := by unfold WordOk at hr; rw [u64_and65535 _ (by omega) (by omega), h2]
  have b3 : bits .and .u64 (x / 16777216) 65535 = h.fields := by unfold WordOk at hr; rw [u64_and65535 _ (by omega) (by omega), h3]
  have w1 : IntKind.i64.wrap h.kind = h.kind := by rw [IntKind.wrap_i64]; omega
  have w2 : IntKind.i64.wrap h.clas = h.clas := by rw [IntKind.wrap_i64]; omega
  have w3 : IntKind.i64.wrap h.fields = h.fields := by rw [IntKind.wrap_i64]; omega
  clear hk hc hf H h1 h2 h3 hx hr
  go_enter Tryz.func140, Tryz.ntmps140
  go_upto_region 2 with fail
  refine wp_name ?_
  intro w0 hw0
  obtain ⟨B0, B1, l0⟩ := box2 hw0
  have lw0 : Later w w0 := l0 w
  have l00 : Later w0 w0 := Later.refl
  clear hw0
  go_upto_region 3 with (go_at_call 120; refine (HE _).mono ?_; rintro r w1 ⟨rfl, hb1⟩; have l1 := later hb1)
  go_upto_region 5 with fail
  go_wp2_with fail
  generalize hw9 : World.setCell (World.setCell (World.setCell w1 _ _) _ _) _ _ = w9
  have B9 := boxed_set3 B0 hw9
  have l9 := later_put3 (W := w) (Nat.le_refl _) (Nat.le_refl _) (Nat.le_refl _) hw9
  clear hw9
  have l99 : Later w9 w9 := Later.refl
  have r0 := ((B9 w9).2 0).1
  have r1 := ((B9 w9).2 1).1
  have r2 := ((B9 w9).2 2).1
  refine bodyPost_ret (v := .tuple #[h.v, .int .i64 0]) (by simp [results, Tryz.results140, go_sem, r0, r1, r2]) rfl ⟨rfl, below_of⟩
set_option maxHeartbeats 4000000 in
theorem words_any5 (h : HdE) (w : World) (H : HdOk h) : Calls Tryz.prog 122 #[h.v] w fun r w' => r = .returned (.int .i64 (2 + max h.fields 2)) ∧ Below w.heap.size w w' := by
  have HV := fun u : World => hvalid_any h u H
  have hf := H.f
  have hm : max h.fields 2 = if h.fields < 2 then 2 else h.fields := by split <;> omega
  rw [hm]
  clear H hm
  by_cases c : h.fields < 2
  · rw [if_pos c]
    go_enter Tryz.func122, Tryz.ntmps122
    go_upto_region 1 with fail
    refine wp_name ?_
    intro w0 hw0
    obtain ⟨B0, l0⟩ := box1 hw0
    clear hw0
    go_wp2_with (go_at_call 69; refine (HV _).mono ?_; rintro r w1 ⟨rfl, hb1⟩; have l1 := later hb1)
    go_ret
    exact ⟨rfl, below_of⟩
  · rw [if_neg c]
    have c' : 2 ≤ h.fields := by omega
    have hw : IntKind.i64.wrap (2 + h.fields) = 2 + h.fields := by rw [IntKind.wrap_i64]; omega
    go_enter Tryz.func122, Tryz.ntmps122
    go_upto_region 1 with fail
    refine wp_name ?_
    intro w0 hw0
    obtain ⟨B0, l0⟩ := box1 hw0
    clear hw0
    go_wp2_with (go_at_call 69; refine (HV _).mono ?_; rintro r w1 ⟨rfl, hb1⟩; have l1 := later hb1)
    go_ret
    exact ⟨rfl, below_of⟩
/-- The word of an identity. -/
def encI (x : IDE) : Int := x.machine * 281474976710656 + x.serial
theorem encI_ok {x : IDE} (h : validIDB x = true) : WordOk (encI x) := by
  unfold validIDB at h; have := of_decide_eq_true h; unfold WordOk encI; omega
set_option maxHeartbeats 4000000 in
theorem decodeID_any (x : IDE) (w : World) (hx : validIDB x = true) : Calls Tryz.prog 136 #[.int .u64 (encI x)] w fun r w' => r = .returned x.v ∧ Below w.heap.size w w' := by
  have HE : ∀ u : World, Calls Tryz.prog 71 #[x.v] u fun r w' => r = .returned (.tuple #[.int .u64 (encI x), .int .i64 0]) ∧ Below u.heap.size u w' := fun u => by
    have := encodeID_any x u
    rw [hx] at this
    exact this
  have hv := of_decide_eq_true (show decide _ = true from hx)
  have hr := encI_ok hx
  obtain ⟨y, hy⟩ : ∃ y, y = encI x := ⟨_, rfl⟩
  rw [← hy] at hr ⊢
  simp only [← hy] at HE
  have h1 : y / 281474976710656 = x.machine := by rw [hy]; unfold encI; omega
  have b2 : bits .and .u64 y 281474976710655 = x.serial := by rw [u64_and48 _ hr.1 hr.2, hy]; unfold encI; omega
  have w1 : IntKind.i64.wrap x.machine = x.machine := by rw [IntKind.wrap_i64]; omega
  have w2 : IntKind.i64.wrap x.serial = x.serial := by rw [IntKind.wrap_i64]; omega
  clear hv hx hr hy
  go_enter Tryz.func136, Tryz.ntmps136
  go_upto_region 2 with fail
  refine wp_name ?_
  intro w0 hw0
  obtain ⟨B0, B1, l0⟩ := box2 hw0
  have lw0 : Later w w0 := l0 w
  have l00 : Later w0 w0 := Later.refl
  clear hw0
  go_upto_region 5 with (go_at_call 71; refine (HE _).mono ?_; rintro r w1 ⟨rfl, hb1⟩; have l1 := later hb1)
  go_wp2_with fail
  generalize hw9 : World.setCell (World.setCell _ _ _) _ _ = w9
  have B9 := boxed_set2 B0 hw9
  have l9 := later_put2 (W := w) (Nat.le_refl _) (Nat.le_refl _) hw9
  clear hw9
  have l99 : Later w9 w9 := Later.refl
  have r0 := ((B9 w9).2 0).1
  have r1 := ((B9 w9).2 1).1
  refine bodyPost_ret (v := x.v) (by simp [results, Tryz.results136, go_sem, r0, r1]) rfl ⟨rfl, below_of⟩
set_option maxHeartbeats 4000000 in
/-- The header of a stub in place of an object's. -/
theorem change_any (h : HdE) (w : World) (H : HdOk h) : Calls Tryz.prog 166 #[.int .u64 h.enc, .int .i64 3] w fun r w' => r = .returned (.tuple #[.int .u64 (HdE.enc { h with kind := 3 }), .int .i64 0]) ∧ Below w.heap.size w w' := by
  have H3 : HdOk { h with kind := 3 } := ⟨H.c, H.f, by simp, by simp, by simp⟩
  have HD := fun u : World => hdecode_any h u H
  have HE := fun u : World => hencode_any { h with kind := 3 } u H3
  clear H3 H
  obtain ⟨x, hx⟩ : ∃ x, x = h.enc := ⟨_, rfl⟩
  obtain ⟨y, hy⟩ : ∃ y, y = HdE.enc { h with kind := 3 } := ⟨_, rfl⟩
  rw [← hx, ← hy]
  simp only [← hx] at HD
  simp only [← hy] at HE
  clear hx hy
  go_enter Tryz.func166, Tryz.ntmps166
  go_upto_region 2 with (go_at_call 140; refine (HD _).mono ?_; rintro r w1 ⟨rfl, hb1⟩; have l1 := later hb1)
  refine wp_name ?_
  intro w2 hw2
  have b2 : w2.heap[w1.heap.size]? = some (.cells #[.int .i64 h.kind, .int .i64 h.clas, .int .i64 h.fields] 73 (0, 0)) := (by rw [← hw2]; simp only [heap_alloc_if, World.size_alloc]; repeat (first | rw [if_pos trivial] | rw [if_neg (by omega)] | rw [if_pos (by omega)]); try rfl)
  have hb2 : Below w1.heap.size w1 w2 := by rw [← hw2]; exact (by repeat (first | with_reducible exact Below.refl _ _ | (with_reducible refine Below.drew ?_) | (with_reducible refine below_drewN ?_ _) | (with_reducible refine Below.alloc ?_ ?_ _; rotate_left; (first | omega | (simp <;> omega))) | (with_reducible refine Below.setCell ?_ ?_ _; rotate_left; (first | omega | (simp <;> omega)))))
  clear hw2
  have lw1 : Later w w1 := ⟨below_of⟩
  have lw2 : Later w w2 := ⟨lw1.below.trans (hb2.mono lw1.below.size)⟩
  have l22 : Later w2 w2 := Later.refl
  have B2 := boxed b2
  have hz := lw1.below.size
  go_upto_region 7 with fail
  refine wp_name ?_
  intro w3 hw3
  have B3 := boxed_set B2 hw3
  have lw3 : Later w w3 := ⟨by rw [← hw3]; exact lw2.below.setCell (p := ⟨w1.heap.size, 0, none⟩) hz _⟩
  clear hw3
  have l33 : Later w3 w3 := Later.refl
  go_wp2_with (go_at_call 120; refine (HE _).mono ?_; rintro r w4 ⟨rfl, hb4⟩; have l4 := later hb4)
  exact bodyPost_ret (results_tmp2 rfl _ _ _) rfl ⟨rfl, below_of⟩
end Go.Proofs.YtjegncmkebbdfaaGreatDoor
