/-
  Contracts of the functions of this seat that each theorem names: what a call returns, and that it writes nothing that was there before. The conditions stand in each theorem.
-/
import Derived.Test.YtjegncmkebbdfaaGreatDoorGrp52
import Derived.Test.YtjegncmkebbdfaaGreatDoorMapLib
set_option linter.unusedSimpArgs false
set_option linter.unusedVariables false
namespace Go.Proofs.YtjegncmkebbdfaaGreatDoor
open Go.RowKit
attribute [local simp] heap_drew
attribute [local go_sem ↓] run_eql_id run_neq_id
theorem MemAt.gw {base : Nat} {w : World} {M : MemE} (H : MemAt base w M) : ∀ j, memS M j → j < w.heap.size := fun j hj => by
  unfold memS at hj
  have := H.words.own
  rw [hj] at this
  exact this.lt
set_option maxRecDepth 100000 in
set_option maxHeartbeats 8000000 in
theorem mtoStub_any {base : Nat} {w : World} {M : MemE} (a : Int) {k : Nat} {h : HdE} {x : IDE} (H : MemAt base w M) (ha : a = 16777216 + k) (ho : ObjAt M.ws k h x) (hst : standsB h = false) (hf0 : h.fields ≤ 2) :
    Calls Tryz.prog 77 #[M.v, .int .i64 a, .int .i64 2, .int .u64 7] w fun r w' => r = .returned (.int .i64 0) ∧ MemAt base w' { M with ws := stubW M.ws k h } ∧ Only (memS M) w w' := by
  have HI : ∀ u [Later w u], Calls Tryz.prog 127 #[M.v, .int .i64 a, .func (.func 128) #[] #[]] u fun r w' => r = .returned (.int .i64 0) ∧ Below u.heap.size u w' := fun u i => mis_any a (H.later u) ha ho hst
  have HM := fun u : World => machine2_any u
  have HW : ∀ (pb : Nat) (u : World) [Later w u], w.heap.size ≤ pb → u.heap[pb]? = some (.cells #[.int .u64 2, .int .u64 7] 34 (0, 0)) → Calls Tryz.prog 131 #[M.v, .int .i64 a, .int .i64 3, .slice (some ⟨pb, 0, none⟩) 2 2] u fun r w' => r = .returned (.tuple #[]) ∧ MemAt base w' { M with ws := stubW M.ws k h } ∧ Only (memS M) u w' := fun pb u i hp hb =>
    mwrite_any a (H.later u) ha ho hf0 hb (fun e => by have := H.gw pb e; omega)
  clear ha ho hst hf0 H
  have lww : Later w w := Later.refl
  go_enter Tryz.func77, Tryz.ntmps77
  go_upto_region 1 with fail
  refine wp_name ?_
  intro w0 hw0
  obtain ⟨B0, l0⟩ := box1 hw0
  have lw0 : Later w w0 := l0 w
  have l00 : Later w0 w0 := Later.refl
  clear hw0
  go_upto_region 2 with (go_at_call 127; refine (HI _).mono ?_; rintro r w1 ⟨rfl, hb1⟩; have l1 := later hb1)
  go_upto_region 6 with (go_at_call 130; refine (HM _).mono ?_; rintro r w2 ⟨rfl, hb2⟩; have l2 := later hb2)
  have lw2 : Later w w2 := ⟨below_of⟩
  have hz := lw2.below.size
  have l22 : Later w2 w2 := Later.refl
  go_upto_region 7 with (go_at_call 131; refine (HW w2.heap.size _ hz (heap_alloc_new _ _)).mono ?_; rintro r w3 ⟨rfl, hm3, ho3⟩; have o3 := (Only.of_below (s := memS M) (show Below w.heap.size w _ from below_of)).trans ho3)
  go_wp2_with fail
  go_ret
  exact ⟨rfl, hm3, o3⟩
theorem zeroBoolH (w : World) : (zeroValue 4).run Tryz.prog w = .ok (.bool false) w := by kernel_rfl
theorem keyInt : KeyL Tryz.prog 3 (fun n : Int => Value.int .i64 n) := keyL_int under_int
set_option maxRecDepth 100000 in
set_option maxHeartbeats 8000000 in
theorem mresolve_any {base : Nat} {w : World} {M : MemE} (a : Int) {k : Nat} {h : HdE} {x : IDE} (H : MemAt base w M) (ha : a = 16777216 + k) (ho : ObjAt M.ws k h x) (hkind : h.kind ≠ 4) :
    Calls Tryz.prog 142 #[M.v, .int .i64 a] w fun r w' => r = .returned (.tuple #[.int .i64 a, .int .i64 0]) ∧ Below w.heap.size w w' := by
  have HH : ∀ u [Later w u], Calls Tryz.prog 89 #[M.v, .int .i64 a] u fun r w' => r = .returned (.tuple #[h.v, .int .i64 0]) ∧ Below u.heap.size u w' := fun u i => mheader_any a (H.later u) ha ho
  have HL : ∀ u [Later w u], Calls Tryz.prog 132 #[M.v, .int .i64 a] u fun r w' => r = .returned (.tuple #[.int .u64 h.enc, .int .i64 0]) ∧ Below u.heap.size u w' := fun u i => mload_any a (H.later u) ha ho.hd
  have hk4 : (h.kind != 4) = true := by rw [bne_iff_ne]; exact hkind
  have hmm := @run_makeMap Tryz.prog
  obtain ⟨eh, heh⟩ : ∃ y, y = h.enc := ⟨_, rfl⟩
  simp only [← heh] at HL
  clear heh ha ho H hkind
  have lww : Later w w := Later.refl
  go_enter Tryz.func142, Tryz.ntmps142
  go_upto_region 1 with fail
  refine wp_name ?_
  intro w0 hw0
  obtain ⟨B0, l0⟩ := box1 hw0
  have lw0 : Later w w0 := l0 w
  have l00 : Later w0 w0 := Later.refl
  clear hw0
  go_upto_region 4 with (go_at_call 132; refine (HL _).mono ?_; rintro r w1 ⟨rfl, hb1⟩; have l1 := later hb1)
  have l01 : Later w0 w1 := ⟨below_of⟩
  have lw1 : Later w w1 := lw0.trans l01
  have l11 : Later w1 w1 := Later.refl
  go_upto_region 5 with fail
  refine wp_name ?_
  intro w2 hw2
  have b2 : w2.heap[w1.heap.size]? = some (.map #[] 0) := by rw [← hw2]; exact heap_alloc_new _ _
  have hM2 : MapFn (fun n : Int => Value.int .i64 n) Value.bool w2 w1.heap.size (fun _ => none) := ⟨#[], 0, b2, by simp, by simp, by simp⟩
  have hb2 : Below w1.heap.size w1 w2 := by rw [← hw2]; exact (by repeat (first | with_reducible exact Below.refl _ _ | (with_reducible refine Below.drew ?_) | (with_reducible refine below_drewN ?_ _) | (with_reducible refine Below.alloc ?_ ?_ _; rotate_left; (first | omega | (simp <;> omega))) | (with_reducible refine Below.setCell ?_ ?_ _; rotate_left; (first | omega | (simp <;> omega)))))
  clear hw2 b2 hmm
  have hg : w.heap.size ≤ w1.heap.size := lw1.below.size
  have hg0 : w.heap.size < w1.heap.size := by
    have h1 := l01.below.size
    have h2 := blk_lt (B0 w0).1
    omega
  obtain ⟨gm, hgm⟩ : ∃ z, z = w1.heap.size := ⟨_, rfl⟩
  rw [← hgm] at hM2 hg hg0 ⊢
  have l02 : Later w0 w2 := ⟨l01.below.trans (hb2.mono l01.below.size)⟩
  have lw2 : Later w w2 := lw0.trans l02
  clear hgm hb2 l1 hb1 l01 lw1 l11
  go_wp2_with fail
  go_loopw [1] (fun av wr => av = .int .i64 a ∧ wr = w2) (fun _ _ => 0)
  case atStart => exact ⟨rfl, rfl⟩
  case round =>
    obtain ⟨rfl, rfl⟩ := hrel
    have lrr : Later wr wr := Later.refl
    have hlk : ∀ (u : World) [Later wr u], (Instr.lookup 165 (.map (some gm)) (.int .i64 a) false).run Tryz.prog u = .ok (.bool false) u := fun u i => run_look keyInt Tryz.underlying165 zeroBoolH (hM2.later u) a
    obtain ⟨U, hU1, hU2, hU3, hU4⟩ := run_store keyInt Tryz.underlying165 hM2
    have hU1' := fun (u : World) [Later wr u] => hU1 u a true
    clear hU1 hU2 hM2
    go_upto_region 7 with fail
    refine wp_name ?_
    intro w8 hw8
    have l8 := later_putAt (W := w) (g := gm) hg hw8
    have B8 := boxed_putAt B0 (g := gm) (by omega) hw8
    clear hw8 hU3 hU4 hU1'
    have lw8 : Later w w8 := l8 w
    have l88 : Later w8 w8 := Later.refl
    go_upto_region 8 with (go_at_call 89; refine (HH _).mono ?_; rintro r w9 ⟨rfl, hb9⟩; have l9 := later hb9)
    refine wp_name ?_
    intro w10 hw10
    have b10 : w10.heap[w9.heap.size]? = some (.cells #[.int .i64 h.kind, .int .i64 h.clas, .int .i64 h.fields] 73 (0, 0)) := (by rw [← hw10]; simp only [heap_alloc_if, World.size_alloc]; repeat (first | rw [if_pos trivial] | rw [if_neg (by omega)] | rw [if_pos (by omega)]); try rfl)
    have hb10 : Below w9.heap.size w9 w10 := by rw [← hw10]; exact (by repeat (first | with_reducible exact Below.refl _ _ | (with_reducible refine Below.drew ?_) | (with_reducible refine below_drewN ?_ _) | (with_reducible refine Below.alloc ?_ ?_ _; rotate_left; (first | omega | (simp <;> omega))) | (with_reducible refine Below.setCell ?_ ?_ _; rotate_left; (first | omega | (simp <;> omega)))))
    clear hw10
    have lw9 : Later w w9 := ⟨below_of⟩
    have lw10 : Later w w10 := ⟨lw9.below.trans (hb10.mono lw9.below.size)⟩
    have l1010 : Later w10 w10 := Later.refl
    have B10 := boxed b10
    go_wp2_with fail
    exact bodyPost_ret (results_tmp2 rfl _ _ _) rfl ⟨rfl, lw10.below⟩
end Go.Proofs.YtjegncmkebbdfaaGreatDoor
