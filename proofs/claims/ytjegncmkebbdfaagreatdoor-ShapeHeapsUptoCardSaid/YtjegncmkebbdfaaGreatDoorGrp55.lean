/-
  Small texts of this seat, put into one. Conditions stand in each theorem.
-/
import Derived.Test.YtjegncmkebbdfaaGreatDoorGrp50
import Derived.Test.YtjegncmkebbdfaaGreatDoorGrpI
import Derived.Deep.RegionHeld3
import Derived.Test.YtjegncmkebbdfaaGreatDoorGrp30
set_option linter.unusedSimpArgs false
set_option linter.unusedVariables false
namespace Go.Proofs.YtjegncmkebbdfaaGreatDoor
open Go.RowKit
attribute [local simp] heap_drew
attribute [local go_sem ↓] run_eql_id run_neq_id
set_option maxHeartbeats 4000000 in
theorem r01Address_any (x : Int) (w : World) (hx : WordOk x) : Calls Tryz.prog 31 #[.int .u64 x] w fun r w' => r = .returned (.tuple #[.int .i64 (if x % 4 = 2 ∧ x / 4 ≤ 4294967295 then x / 4 else 0), .bool (decide (x % 4 = 2 ∧ x / 4 ≤ 4294967295))]) ∧ Below w.heap.size w w' := by
  have hw : IntKind.u64.wrap (x / 4) = x / 4 := by unfold WordOk at hx; rw [IntKind.wrap_u64]; omega
  have ht : x.tmod 4 = x % 4 := Int.tmod_eq_emod_of_nonneg hx.1
  have hd : x.tdiv 4 = x / 4 := Int.tdiv_eq_ediv_of_nonneg hx.1
  by_cases c2 : x % 4 = 2
  · by_cases c4 : x / 4 ≤ 4294967295
    · rw [if_pos ⟨c2, c4⟩, decide_eq_true (show x % 4 = 2 ∧ x / 4 ≤ 4294967295 from ⟨c2, c4⟩)]
      have hw2 : IntKind.i64.wrap (x / 4) = x / 4 := by unfold WordOk at hx; rw [IntKind.wrap_i64]; omega
      have c4' : ¬ 4294967295 < x / 4 := by omega
      have c4'' := decide_eq_false c4'
      clear hx
      go_enter Tryz.func31, Tryz.ntmps31
      go_wp2_with fail
      exact bodyPost_ret (results_tmp2 rfl _ _ _) rfl ⟨rfl, below_of⟩
    · rw [if_neg (fun h => c4 h.2), decide_eq_false (show ¬ (x % 4 = 2 ∧ x / 4 ≤ 4294967295) from fun h => c4 h.2)]
      have c4' : 4294967295 < x / 4 := by omega
      have c4'' := decide_eq_true c4'
      clear hx
      go_enter Tryz.func31, Tryz.ntmps31
      go_wp2_with fail
      exact bodyPost_ret (results_tmp2 rfl _ _ _) rfl ⟨rfl, below_of⟩
  · rw [if_neg (fun h => c2 h.1), decide_eq_false (show ¬ (x % 4 = 2 ∧ x / 4 ≤ 4294967295) from fun h => c2 h.1)]
    have c2' : (x % 4 != 2) = true := by rw [bne_iff_ne]; exact c2
    clear hx
    go_enter Tryz.func31, Tryz.ntmps31
    go_wp2_with fail
    exact bodyPost_ret (results_tmp2 rfl _ _ _) rfl ⟨rfl, below_of⟩
set_option maxHeartbeats 4000000 in
theorem r01Kind_any (x : Int) (w : World) (hx : WordOk x) : Calls Tryz.prog 12 #[.int .u64 x] w fun r w' => r = .returned (.int .i64 (kindW x)) ∧ Below w.heap.size w w' := by
  have HA := fun u : World => r01Address_any x u hx
  have ht : x.tmod 4 = x % 4 := Int.tmod_eq_emod_of_nonneg hx.1
  obtain ⟨K, hK⟩ : ∃ K, K = kindW x := ⟨_, rfl⟩
  rw [← hK]
  by_cases c0 : x = 0
  · obtain rfl : K = 0 := by rw [hK, c0]; decide
    subst c0
    clear HA hx hK
    go_enter Tryz.func12, Tryz.ntmps12
    go_wp2_with fail
    go_ret
    exact ⟨rfl, below_of⟩
  have c0' : (x == 0) = false := by rw [beq_eq_false_iff_ne]; exact c0
  by_cases c1 : x % 4 = 1
  · obtain rfl : K = 1 := by rw [hK]; unfold kindW; rw [if_neg c0, if_pos c1]
    clear HA hx hK
    go_enter Tryz.func12, Tryz.ntmps12
    go_wp2_with fail
    go_ret
    exact ⟨rfl, below_of⟩
  have c1' : (x % 4 == 1) = false := by rw [beq_eq_false_iff_ne]; exact c1
  by_cases c3 : x % 4 = 3
  · obtain rfl : K = 3 := by rw [hK]; unfold kindW; rw [if_neg c0, if_neg c1, if_neg (fun h => by omega), if_pos c3]
    clear HA hx hK
    go_enter Tryz.func12, Tryz.ntmps12
    go_wp2_with fail
    go_ret
    exact ⟨rfl, below_of⟩
  have c3' : (x % 4 == 3) = false := by rw [beq_eq_false_iff_ne]; exact c3
  by_cases c2 : x % 4 = 2 ∧ x / 4 ≤ 4294967295
  · obtain rfl : K = 2 := by rw [hK]; unfold kindW; rw [if_neg c0, if_neg c1, if_pos c2]
    rw [if_pos c2, decide_eq_true c2] at HA
    clear hx hK c2 c0 c1 c3
    go_enter Tryz.func12, Tryz.ntmps12
    go_wp2_with (go_at_call 31; refine (HA _).mono ?_; rintro r w1 ⟨rfl, hb1⟩; have l1 := later hb1)
    go_ret
    exact ⟨rfl, below_of⟩
  · obtain rfl : K = -1 := by rw [hK]; unfold kindW; rw [if_neg c0, if_neg c1, if_neg c2, if_neg c3]
    rw [if_neg c2, decide_eq_false c2] at HA
    clear hx hK c2 c0 c1 c3
    go_enter Tryz.func12, Tryz.ntmps12
    go_wp2_with (go_at_call 31; refine (HA _).mono ?_; rintro r w1 ⟨rfl, hb1⟩; have l1 := later hb1)
    go_ret
    exact ⟨rfl, below_of⟩
set_option maxHeartbeats 4000000 in
theorem r01Wrap_any (n : Int) (w : World) (h0 : 0 ≤ n) (h1 : n < 4611686018427387904) : Calls Tryz.prog 38 #[.int .i64 n] w fun r w' => r = .returned (.int .i64 (if n < 2305843009213693952 then n else n - 4611686018427387904)) ∧ Below w.heap.size w w' := by
  have ht : n.tmod 4611686018427387904 = n := by rw [Int.tmod_eq_emod_of_nonneg h0]; omega
  by_cases c : n < 2305843009213693952
  · rw [if_pos c]
    have c1 : ¬ 2305843009213693952 ≤ n := by omega
    have c2 : ¬ n < -2305843009213693952 := by omega
    clear h0 h1
    go_enter Tryz.func38, Tryz.ntmps38
    go_wp2_with fail
    go_ret
    exact ⟨rfl, below_of⟩
  · rw [if_neg c]
    have c1 : 2305843009213693952 ≤ n := by omega
    have hw : IntKind.i64.wrap (n - 4611686018427387904) = n - 4611686018427387904 := by rw [IntKind.wrap_i64]; omega
    clear h0 h1
    go_enter Tryz.func38, Tryz.ntmps38
    go_wp2_with fail
    go_ret
    exact ⟨rfl, below_of⟩
set_option maxHeartbeats 4000000 in
theorem r01Int_any (x : Int) (w : World) (hx : WordOk x) : Calls Tryz.prog 14 #[.int .u64 x] w fun r w' => r = .returned (.tuple #[.int .i64 (if x % 4 = 1 then intW x else 0), .bool (decide (x % 4 = 1))]) ∧ Below w.heap.size w w' := by
  have HW : ∀ u : World, Calls Tryz.prog 38 #[.int .i64 (x / 4)] u fun r w' => r = .returned (.int .i64 (intW x)) ∧ Below u.heap.size u w' := fun u => by
    unfold WordOk at hx
    exact r01Wrap_any (x / 4) u (by omega) (by omega)
  have hw : IntKind.u64.wrap (x / 4) = x / 4 := by unfold WordOk at hx; rw [IntKind.wrap_u64]; omega
  have hw2 : IntKind.i64.wrap (x / 4) = x / 4 := by unfold WordOk at hx; rw [IntKind.wrap_i64]; omega
  have ht : x.tmod 4 = x % 4 := Int.tmod_eq_emod_of_nonneg hx.1
  have hd : x.tdiv 4 = x / 4 := Int.tdiv_eq_ediv_of_nonneg hx.1
  clear hx
  by_cases c1 : x % 4 = 1
  · rw [if_pos c1, decide_eq_true c1]
    go_enter Tryz.func14, Tryz.ntmps14
    go_wp2_with (go_at_call 38; refine (HW _).mono ?_; rintro r w1 ⟨rfl, hb1⟩; have l1 := later hb1)
    exact bodyPost_ret (results_tmp2 rfl _ _ _) rfl ⟨rfl, below_of⟩
  · rw [if_neg c1, decide_eq_false c1]
    have c1' : (x % 4 != 1) = true := by rw [bne_iff_ne]; exact c1
    go_enter Tryz.func14, Tryz.ntmps14
    go_wp2_with fail
    exact bodyPost_ret (results_tmp2 rfl _ _ _) rfl ⟨rfl, below_of⟩
def encN (n : Int) : Int := (n * 4 + 1) % 18446744073709551616
theorem encN_ok (n : Int) : WordOk (encN n) ∧ encN n % 4 = 1 := by unfold encN WordOk; omega
theorem encN_int {n : Int} (h0 : -2305843009213693952 ≤ n) (h1 : n ≤ 2305843009213693951) : intW (encN n) = n := by unfold intW encN; split <;> omega
set_option maxHeartbeats 4000000 in
theorem r01FromInt_any (n : Int) (w : World) (h0 : -2305843009213693952 ≤ n) (h1 : n ≤ 2305843009213693951) : Calls Tryz.prog 35 #[.int .i64 n] w fun r w' => r = .returned (.tuple #[.int .u64 (encN n), .int .i64 0]) ∧ Below w.heap.size w w' := by
  have c0 : ¬ n < -2305843009213693952 := by omega
  have c1 : ¬ 2305843009213693951 < n := by omega
  have hw : IntKind.u64.wrap (IntKind.u64.wrap (IntKind.u64.wrap n * 4) + 1) = encN n := by unfold encN; simp only [IntKind.wrap_u64]; omega
  clear h0 h1
  go_enter Tryz.func35, Tryz.ntmps35
  go_wp2_with fail
  exact bodyPost_ret (results_tmp2 rfl _ _ _) rfl ⟨by first | rfl | (rw [← hw]; rfl), below_of⟩
end Go.Proofs.YtjegncmkebbdfaaGreatDoor

namespace Go.Proofs.YtjegncmkebbdfaaGreatDoor
open Go.RowKit
attribute [local simp] heap_drew
attribute [local go_sem ↓] run_eql_id run_neq_id
/-- The place of an identity among nodes: one of those that bear it. -/
def IdxPost (l : List NodeE) (x : IDE) (w : World) (r : Ending) (w' : World) : Prop := ∃ (j : Nat) (n : NodeE), r = .returned (.int .i64 (j : Int)) ∧ Hid (l[j]? = some n) ∧ Hid (n.id = x) ∧ Hid (∀ (i : Nat) (m : NodeE), i < j → l[i]? = some m → m.id ≠ x) ∧ Below w.heap.size w w'
set_option maxRecDepth 100000 in
set_option maxHeartbeats 4000000 in
theorem index16_any (A : Option Addr) (c : Nat) (l : List NodeE) (x : IDE) (w : World) (H : NodesAt w A l) (hl : l.length ≤ 1000000000) (hx : ∃ n ∈ l, n.id = x) : Calls Tryz.prog 36 #[.agg #[.slice A l.length c], x.v] w (IdxPost l x w) := by
  have HL := H.later
  have hl' : l.length ≤ 9223372036854775807 := by omega
  go_enter Tryz.func36, Tryz.ntmps36
  go_upto_region 1 with fail
  refine wp_name ?_
  intro w0 hw0
  obtain ⟨B0, B1, l0⟩ := box2 hw0
  clear hw0
  go_wp2_with fail
  go_loopw [5] (fun iv wr => ∃ k : Nat, k ≤ l.length ∧ iv = .int .i64 k ∧ (∀ (j : Nat) (y : NodeE), j < k → l[j]? = some y → y.id ≠ x) ∧ Below w0.heap.size w0 wr) (fun iv _ => l.length - (intOf iv).toNat)
  case atStart => exact ⟨0, by omega, rfl, fun j y h => absurd h (by omega), Below.refl _ _⟩
  case round =>
    obtain ⟨k, hk, rfl, hno, hbr⟩ := hrel
    have lr := later hbr
    have Hno := hide hno
    clear hno
    by_cases hlt : k < l.length
    · obtain ⟨b1, o1, n, rfl, hn, C1, F1, hf1, hf2⟩ := (HL wr).get hlt
      have Hn := hide hn
      clear hn
      cases hp : ideq n.iDMachine n.iDSerial x.machine x.serial
      · have hne := hide (show n.id ≠ x by have := @ideq_iff n.id x; unfold NodeE.id at this ⊢; rw [hp] at this; simpa using this.symm)
        go_upto_region 4 with fail
        (refine wp_region_after (by kernel_rfl) (by kernel_rfl) ?_
         repeat (any_goals (first | go_big_quiet_skip | (go_big_quiet_want; go_big_quiet_op; first | go_big_quiet_on | go_big_quiet_call (fail)) | quiet_step (fail) | (refine wpQuiet_step (fun K hK => ?_); go_simp; split <;> (refine hK _ ?_; clear hK K))))
         all_goals (refine wpQuiet_nil ?_; intro _ hw'; obtain ⟨u', hw''⟩ := hw'; subst hw''; obtain ⟨wd, hbd⟩ := u'; simp only [After.val_mk]))
        have ld := later hbd
        go_wp2_with fail
        go_roundw
        case rel => exact ⟨k + 1, by omega, by go_num, fun j z hj hz => by
          rcases Nat.lt_or_ge j k with h | h
          · exact Hno.out j z h hz
          · have : j = k := by omega
            subst this
            rw [Hn.out] at hz; injection hz with hz; subst hz; exact hne.out, below_of⟩
        case measure => simp [intOf]; omega
      · have he := hide (show n.id = x by have := @ideq_iff n.id x; unfold NodeE.id at this ⊢; rw [hp] at this; simpa using this.symm)
        go_upto_region 4 with fail
        (refine wp_region_after (by kernel_rfl) (by kernel_rfl) ?_
         repeat (any_goals (first | go_big_quiet_skip | (go_big_quiet_want; go_big_quiet_op; first | go_big_quiet_on | go_big_quiet_call (fail)) | quiet_step (fail) | (refine wpQuiet_step (fun K hK => ?_); go_simp; split <;> (refine hK _ ?_; clear hK K))))
         all_goals (refine wpQuiet_nil ?_; intro _ hw'; obtain ⟨u', hw''⟩ := hw'; subst hw''; obtain ⟨wd, hbd⟩ := u'; simp only [After.val_mk]))
        have ld := later hbd
        go_wp2_with fail
        go_ret
        exact ⟨k, n, rfl, Hn, he, Hno, below_of⟩
    · exfalso
      obtain ⟨n, hn, hi⟩ := hx
      obtain ⟨j, hj⟩ := List.getElem?_of_mem hn
      exact Hno.out j n (by have := (List.getElem?_eq_some_iff.1 hj).1; omega) hj hi
structure ClosedG (l : List NodeE) : Prop where
  valid : valid16B (conL l) = true
  refs : ∀ n ∈ l, ∀ f ∈ n.fields, f.kind = 2 → ∃ m ∈ l, m.id = f.ref
theorem mem_take_succ {α : Type} {l : List α} {k : Nat} {x : α} (hx : l[k]? = some x) {y : α} (hy : y ∈ l.take (k + 1)) : y ∈ l.take k ∨ y = x := by
  rw [List.take_add_one, List.mem_append, hx] at hy
  simpa using hy
def ClosedPost (l : List NodeE) (w : World) (r : Ending) (w' : World) : Prop := ∃ b, r = .returned (.bool b) ∧ Hid (b = true → ClosedG l) ∧ Below w.heap.size w w'
set_option maxRecDepth 100000 in
set_option maxHeartbeats 8000000 in
theorem closed16_any (A : Option Addr) (c : Nat) (l : List NodeE) (w : World) (H : NodesAt w A l) (hl : l.length ≤ 1000000000) (hf : ∀ n ∈ l, n.fields.length ≤ 1000000000) : Calls Tryz.prog 11 #[.agg #[.slice A l.length c]] w (ClosedPost l w) := by
  have HL := H.later
  have HV : ∀ u [Later w u], Calls Tryz.prog 27 #[.agg #[.slice A l.length c]] u fun r w' => r = .returned (.bool (valid16B (conL l))) ∧ Below u.heap.size u w' := fun u i => valid16_any A c l u (HL u) hl hf
  have HF : ∀ (x : IDE) (u : World) [Later w u], Calls Tryz.prog 30 #[.agg #[.slice A l.length c], x.v] u (Find16Post l x u) := fun x u i => find16_any A c l x u (HL u) hl
  unfold Find16Post at HF
  have hl' : l.length ≤ 9223372036854775807 := by omega
  have lww : Later w w := Later.refl
  obtain ⟨vb, hvb⟩ : ∃ b, valid16B (conL l) = b := ⟨_, rfl⟩
  rw [hvb] at HV
  have Hvb := hide hvb
  clear hvb
  go_enter Tryz.func11, Tryz.ntmps11
  go_upto_region 1 with fail
  refine wp_name ?_
  intro w0 hw0
  obtain ⟨B0, l0⟩ := box1 hw0
  have lw0 : Later w w0 := l0 w
  have l00 : Later w0 w0 := Later.refl
  clear hw0
  cases vb
  · go_wp2_with (go_at_call 27; refine (HV _).mono ?_; rintro r w1 ⟨rfl, hb1⟩; have l1 := later hb1)
    go_ret
    exact ⟨false, rfl, hide (fun h => by cases h), below_of⟩
  go_upto_region 3 with (go_at_call 27; refine (HV _).mono ?_; rintro r w1 ⟨rfl, hb1⟩; have l1 := later hb1)
  have l01 : Later w0 w1 := ⟨below_of⟩
  have l11 : Later w1 w1 := Later.refl
  go_wp2_with fail
  go_loopw [3] (fun iv wr => ∃ k : Nat, k ≤ l.length ∧ iv = .int .i64 k ∧ Hid (∀ n ∈ l.take k, ∀ f ∈ n.fields, f.kind = 2 → ∃ m ∈ l, m.id = f.ref) ∧ Below w1.heap.size w1 wr) (fun iv _ => l.length - (intOf iv).toNat)
  case atStart => exact ⟨0, by omega, rfl, hide (fun n hn => by simp at hn), Below.refl _ _⟩
  case round =>
    obtain ⟨k, hk, rfl, hno, hbr⟩ := hrel
    obtain ⟨wR, hwR⟩ : ∃ y, y = wr := ⟨_, rfl⟩
    subst hwR
    have l1R : Later w1 wR := ⟨hbr⟩
    have l0R : Later w0 wR := l01.trans l1R
    have lwR : Later w wR := lw0.trans l0R
    have lRR : Later wR wR := Later.refl
    by_cases hlt : k < l.length
    rotate_left
    · have hk' : k = l.length := by omega
      subst hk'
      rw [List.take_length] at hno
      have hC := hide (show ClosedG l from ⟨Hvb.out, hno.out⟩)
      go_wp2_with fail
      go_ret
      exact ⟨true, rfl, hide (fun _ => hC.out), below_of⟩
    obtain ⟨b1, o1, n, rfl, hn, C1, F1, hf1, hf2⟩ := (HL w).get hlt
    have hki : (k : Int) < (l.length : Int) := by omega
    have hnl := hf n (List.mem_of_getElem? hn)
    have hnl' : n.fields.length ≤ 9223372036854775807 := by omega
    have hS := hide (fun (h : ∀ f ∈ n.fields, f.kind = 2 → ∃ m ∈ l, m.id = f.ref) => show ∀ y ∈ l.take (k + 1), ∀ f ∈ y.fields, f.kind = 2 → ∃ m ∈ l, m.id = f.ref from fun y hy => by
      rcases mem_take_succ hn hy with hy | rfl
      · exact hno.out y hy
      · exact h)
    clear hn hno
    go_upto_region 7 with fail
    go_wp2_with fail
    go_loopw [5] (fun iv wr => ∃ i : Nat, i ≤ n.fields.length ∧ iv = .int .i64 i ∧ Hid (∀ f ∈ n.fields.take i, f.kind = 2 → ∃ m ∈ l, m.id = f.ref) ∧ Below wR.heap.size wR wr) (fun iv _ => n.fields.length - (intOf iv).toNat)
    case atStart => exact ⟨0, by omega, rfl, hide (fun f hf => by simp at hf), Below.refl _ _⟩
    case round =>
      obtain ⟨i, hi, rfl, hfo, hbx⟩ := hrel
      have lRr : Later wR wr := ⟨hbx⟩
      have l1r : Later w1 wr := l1R.trans lRr
      have l0r : Later w0 wr := l01.trans l1r
      have lwr : Later w wr := lw0.trans l0r
      have lrr : Later wr wr := Later.refl
      by_cases hlti : i < n.fields.length
      rotate_left
      · have hi' : i = n.fields.length := by omega
        subst hi'
        rw [List.take_length] at hfo
        have hR := hide (hS.out hfo.out)
        go_wp2_with fail
        go_roundw
        case rel => exact ⟨k + 1, by omega, by go_num, hR, hbr.trans (hbx.mono hbr.size)⟩
        case measure => simp [intOf]; omega
      have hii : (i : Int) < (n.fields.length : Int) := by omega
      obtain ⟨gf, of_, f, hfA, -, hf', hc⟩ := (F1 w).at_ hlti
      have CF : ∀ u [Later w u], u.cell? ⟨gf, of_ + i * 4, none⟩ = some (.int .i64 f.kind) ∧ u.cell? ⟨gf, of_ + i * 4 + 2, none⟩ = some (.int .i64 f.refMachine) ∧ u.cell? ⟨gf, of_ + i * 4 + 3, none⟩ = some (.int .i64 f.refSerial) := fun u j => ⟨by
        have := cell_below (hc 0 _ rfl) j.below
        simpa using this, cell_below (hc 2 _ rfl) j.below, cell_below (hc 3 _ rfl) j.below⟩
      have hS2 := hide (fun (h : f.kind = 2 → ∃ m ∈ l, m.id = f.ref) => show ∀ y ∈ n.fields.take (i + 1), y.kind = 2 → ∃ m ∈ l, m.id = y.ref from fun y hy => by
        rcases mem_take_succ hf' hy with hy | rfl
        · exact hfo.out y hy
        · exact h)
      have HfA := hide hfA
      clear hf' hfo hc
      have HFx : ∀ u [Later w u], Calls Tryz.prog 30 #[.agg #[.slice (some ⟨b1, o1, none⟩) l.length c], .agg #[.int .i64 f.refMachine, .int .i64 f.refSerial]] u fun r w' => r = .returned (.tuple #[((firstE l f.ref).getD zeroN).v, .bool (firstE l f.ref).isSome]) ∧ Below u.heap.size u w' := fun u j => HF f.ref u
      obtain ⟨ob, hob⟩ : ∃ b, (firstE l f.ref).isSome = b := ⟨_, rfl⟩
      obtain ⟨nz, hnz⟩ : ∃ b, (firstE l f.ref).getD zeroN = b := ⟨_, rfl⟩
      rw [hob, hnz] at HFx
      have hfound := hide (show ob = true → ∃ m ∈ l, m.id = f.ref by
        intro h
        rw [← hob] at h
        obtain ⟨m, hm⟩ := Option.isSome_iff_exists.1 h
        obtain ⟨h1, h2⟩ := firstE_some hm
        exact ⟨m, h1, h2⟩)
      clear hob hnz
      go_upto_region 10 with fail
      have cx : ∀ u [Later wr u], u.cell? ⟨w.heap.size, 0, none⟩ = some (.slice (some ⟨b1, o1, none⟩) l.length c) ∧ u.cell? ⟨gf, of_ + i * 4 + 2, none⟩ = some (.int .i64 f.refMachine) ∧ u.cell? ⟨gf, of_ + i * 4 + 3, none⟩ = some (.int .i64 f.refSerial) := fun u j => by
        haveI := l0r.trans j
        haveI := lwr.trans j
        exact ⟨((B0 u).2 0).1, (CF u).2.1, (CF u).2.2⟩
      obtain ⟨c0, c1, c2⟩ := cx wr
      have hzr : w.heap.size < wr.heap.size := by
        have h1 := blk_lt (B0 w0).1
        have h2 := l0r.below.size
        omega
      have hgf : gf < w.heap.size := by
        have := CF w
        exact World.block_lt_of_cell? w _ this.1
      have hn1 : w.heap.size ≠ wr.heap.size := by omega
      have hn1' : wr.heap.size ≠ w.heap.size := by omega
      have hn2 : gf ≠ wr.heap.size := by omega
      have hn2' : wr.heap.size ≠ gf := by omega
      go_region_held3 (fun w' => w'.cell? ⟨w.heap.size, 0, none⟩ = some (.slice (some ⟨b1, o1, none⟩) l.length c) ∧ w'.cell? ⟨gf, of_ + i * 4 + 2, none⟩ = some (.int .i64 f.refMachine) ∧ w'.cell? ⟨gf, of_ + i * 4 + 3, none⟩ = some (.int .i64 f.refSerial)) (go_keep)
        ((go_at_call 30
          refine (HFx _).mono ?_
          rintro r w5 ⟨rfl, hb5⟩
          have l5 := later hb5
          obtain ⟨d0, d1, d2⟩ := cx w5
          have hz5 : wr.heap.size ≤ w5.heap.size := (show Below wr.heap.size wr w5 from below_of).size
          have hm1 : w.heap.size ≠ w5.heap.size := by omega
          have hm1' : w5.heap.size ≠ w.heap.size := by omega
          have hm2 : gf ≠ w5.heap.size := by omega
          have hm2' : w5.heap.size ≠ gf := by omega
          first
            | (have xb : w5.heap[wr.heap.size]? = some (.cells #[.int .i64 0, .int .i64 0, .int .i64 0, .int .i64 0, .slice none 0 0] 51 (0, 0)) := by
                 refine blk_below ?_ hb5
                 exact heap_alloc_new _ _
               have XB := boxed xb)
            | skip
          have l55 : Later w5 w5 := Later.refl))
      all_goals
        go_upto_region 11 with fail
        refine wp_name ?_
        intro w9 hw9
        have hb5w : Below wr.heap.size wr w5 := below_of
        have hb9 : Below wr.heap.size wr w9 := by rw [← hw9]; exact (by repeat (first | with_reducible exact hb5w | with_reducible exact Below.refl _ _ | (with_reducible refine Below.drew ?_) | (with_reducible refine below_drewN ?_ _) | (with_reducible refine Below.alloc ?_ ?_ _; rotate_left; (first | omega | (simp <;> omega))) | (with_reducible refine Below.setCell ?_ ?_ _; rotate_left; (first | omega | (simp <;> omega)))))
        clear hw9
        have l9 : Later wr w9 := ⟨hb9⟩
        have lw9 : Later w w9 := lwr.trans l9
        have l99 : Later w9 w9 := Later.refl
        clear c0 c1 c2 d0 d1 d2 cx HFx
        by_cases ck : f.kind = 2
        · cases ob
          · go_wp2_with fail
            go_ret
            exact ⟨false, rfl, hide (fun h => by cases h), below_of⟩
          · have hR := hide (hS2.out fun _ => hfound.out rfl)
            go_wp2_with fail
            go_roundw
            case rel => exact ⟨i + 1, by omega, by go_num, hR, hbx.trans (hb9.mono hbx.size)⟩
            case measure => simp [intOf]; omega
        · have hR := hide (hS2.out fun h => absurd h ck)
          have ck' : (f.kind == 2) = false := by rw [beq_eq_false_iff_ne]; exact ck
          go_wp2_with fail
          simp only [← HfA.out]
          go_roundw
          case rel => exact ⟨i + 1, by omega, by go_num, hR, hbx.trans (hb9.mono hbx.size)⟩
          case measure => simp [intOf]; omega
end Go.Proofs.YtjegncmkebbdfaaGreatDoor
