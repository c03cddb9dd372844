/-
  Small texts of this seat, put into one. Conditions stand in each theorem.
-/
import Derived.Test.YtjegncmkebbdfaaGreatDoorHAlloc
set_option linter.unusedSimpArgs false
set_option linter.unusedVariables false
namespace Go.Proofs.YtjegncmkebbdfaaGreatDoor
open Go.RowKit
attribute [local simp] heap_drew
attribute [local go_sem ↓] run_eql_id run_neq_id
/-! ### Memory: an old space that is empty, and a young one -/
structure MemE where
  gO : Nat
  gY : Nat
  A : Option Addr
  c : Nat
  ws : List Int
abbrev MemE.v (M : MemE) : Value := .agg #[.pointer (some ⟨M.gO, 0, none⟩), .pointer (some ⟨M.gY, 0, none⟩)]
structure MemAt (base : Nat) (w : World) (M : MemE) : Prop where
  old : SpAt w M.gO 0 5000 (.slice none 0 0)
  young : SpAt w M.gY 16777216 16782216 (.slice M.A M.ws.length M.c)
  words : WsAt base w M.A M.c M.ws
  len : M.ws.length ≤ 5000
theorem MemAt.below {base : Nat} {w w' : World} {M : MemE} (h : MemAt base w M) (hb : Below w.heap.size w w') : MemAt base w' M := ⟨h.old.below hb, h.young.below hb, h.words.below hb, h.len⟩
theorem MemAt.later {base : Nat} {w : World} {M : MemE} (h : MemAt base w M) : ∀ u [Later w u], MemAt base u M := fun _ i => h.below i.below
theorem MemAt.spin {base : Nat} {w : World} {M : MemE} (h : MemAt base w M) : SpIn 16777216 M.ws.length := ⟨by decide, by decide, by have := h.len; omega⟩
/-- An object that stands at k among the words. -/
structure ObjAt (ws : List Int) (k : Nat) (h : HdE) (x : IDE) : Prop where
  hd : ws[k]? = some h.enc
  id : ws[k + 1]? = some (encI x)
  le : k + h.sz ≤ ws.length
  ok : HdOk h
  ok' : validIDB x = true
theorem HdE.sz_two (h : HdE) : 4 ≤ h.sz := by unfold HdE.sz; omega
set_option maxHeartbeats 2000000 in
theorem part_any {base : Nat} {w : World} {M : MemE} (a : Int) (ha : 16777216 ≤ a) : Calls Tryz.prog 138 #[M.v, .int .i64 a] w fun r w' => r = .returned (spP M.gY) ∧ Below w.heap.size w w' := by
  go_enter Tryz.func138, Tryz.ntmps138
  go_upto_region 1 with fail
  refine wp_name ?_
  intro w0 hw0
  obtain ⟨B0, l0⟩ := box1 hw0
  clear hw0
  go_wp2_with fail
  go_ret
  exact ⟨rfl, below_of⟩
set_option maxHeartbeats 2000000 in
theorem mload_any {base : Nat} {w : World} {M : MemE} (a : Int) {k : Nat} {x : Int} (h : MemAt base w M) (ha : a = 16777216 + k) (hk : M.ws[k]? = some x) : Calls Tryz.prog 132 #[M.v, .int .i64 a] w fun r w' => r = .returned (.tuple #[.int .u64 x, .int .i64 0]) ∧ Below w.heap.size w w' := by
  have HP : ∀ u : World, Calls Tryz.prog 138 #[M.v, .int .i64 a] u fun r w' => r = .returned (spP M.gY) ∧ Below u.heap.size u w' := fun u => part_any (base := base) a (by omega)
  have HL : ∀ u [Later w u], Calls Tryz.prog 139 #[spP M.gY, .int .i64 a] u fun r w' => r = .returned (.tuple #[.int .u64 x, .int .i64 0]) ∧ Below u.heap.size u w' := fun u i => by
    have hu := h.later u
    rw [ha]
    exact load_any k x hu.young hu.spin hu.words.slAt hk
  clear h ha hk
  have lww : Later w w := Later.refl
  go_enter Tryz.func132, Tryz.ntmps132
  go_upto_region 1 with fail
  refine wp_name ?_
  intro w0 hw0
  obtain ⟨B0, l0⟩ := box1 hw0
  have lw0 : Later w w0 := l0 w
  clear hw0
  go_wp2_with (first
    | (go_at_call 138; refine (HP _).mono ?_; rintro r w1 ⟨rfl, hb1⟩; have l1 := later hb1)
    | (go_at_call 139; refine (HL _).mono ?_; rintro r w2 ⟨rfl, hb2⟩; have l2 := later hb2))
  exact bodyPost_ret (results_tmp2 rfl _ _ _) rfl ⟨rfl, below_of⟩
set_option maxRecDepth 100000 in
set_option maxHeartbeats 8000000 in
theorem mheader_any {base : Nat} {w : World} {M : MemE} (a : Int) {k : Nat} {h : HdE} {x : IDE} (H : MemAt base w M) (ha : a = 16777216 + k) (ho : ObjAt M.ws k h x) : Calls Tryz.prog 89 #[M.v, .int .i64 a] w fun r w' => r = .returned (.tuple #[h.v, .int .i64 0]) ∧ Below w.heap.size w w' := by
  have HP : ∀ u : World, Calls Tryz.prog 138 #[M.v, .int .i64 a] u fun r w' => r = .returned (spP M.gY) ∧ Below u.heap.size u w' := fun u => part_any (base := base) a (by omega)
  have HL : ∀ u [Later w u], Calls Tryz.prog 139 #[spP M.gY, .int .i64 a] u fun r w' => r = .returned (.tuple #[.int .u64 h.enc, .int .i64 0]) ∧ Below u.heap.size u w' := fun u i => by
    have hu := H.later u
    rw [ha]
    exact load_any k _ hu.young hu.spin hu.words.slAt ho.hd
  have HL2 : ∀ u [Later w u], Calls Tryz.prog 139 #[spP M.gY, .int .i64 (a + 1)] u fun r w' => r = .returned (.tuple #[.int .u64 (encI x), .int .i64 0]) ∧ Below u.heap.size u w' := fun u i => by
    have hu := H.later u
    rw [ha, show (16777216 + (k : Int) + 1) = 16777216 + ((k + 1 : Nat) : Int) by omega]
    exact load_any (k + 1) _ hu.young hu.spin hu.words.slAt ho.id
  have HD := fun u : World => hdecode_any h u ho.ok
  have HI := fun u : World => decodeID_any x u ho.ok'
  have HW := fun u : World => words_any5 h u ho.ok
  have hf := ho.ok.f
  have hsz : (2 : Int) + max h.fields 2 = (h.sz : Int) := by unfold HdE.sz; omega
  rw [hsz] at HW
  have hs1 := h.sz_two
  have hs2 : h.sz ≤ 32 := by unfold HdE.sz; omega
  have HC : ∀ u [Later w u], Calls Tryz.prog 133 #[spP M.gY, .int .i64 (a + (h.sz : Int) - 1)] u fun r w' => r = .returned (.bool true) ∧ Below u.heap.size u w' := fun u i => by
    have hu := H.later u
    have := contains_any (a + (h.sz : Int) - 1) hu.young hu.spin
    rw [decide_eq_true ⟨by omega, by have := ho.le; omega⟩] at this
    exact this
  have hl := H.len
  have hle := ho.le
  have q1 : IntKind.i64.wrap (a + 1) = a + 1 := by rw [IntKind.wrap_i64]; omega
  have q2 : IntKind.i64.wrap (a + (h.sz : Int)) = a + (h.sz : Int) := by rw [IntKind.wrap_i64]; omega
  have q3 : IntKind.i64.wrap (a + (h.sz : Int) - 1) = a + (h.sz : Int) - 1 := by rw [IntKind.wrap_i64]; omega
  have hne : ideq x.machine x.serial 0 0 = false := by
    rw [show ideq x.machine x.serial 0 0 = decide (x = ⟨0, 0⟩) from @ideq_iff x ⟨0, 0⟩]
    refine decide_eq_false fun e => ?_
    have := ho.ok'
    rw [e] at this
    exact absurd this (by decide)
  obtain ⟨eh, heh⟩ : ∃ y, y = h.enc := ⟨_, rfl⟩
  obtain ⟨ei, hei⟩ : ∃ y, y = encI x := ⟨_, rfl⟩
  simp only [← heh] at HD HL
  simp only [← hei] at HL2 HI
  obtain ⟨z, hz⟩ : ∃ z, z = h.sz := ⟨_, rfl⟩
  simp only [← hz] at HC HW q2 q3
  obtain ⟨a1, ha1⟩ : ∃ y, y = a + 1 := ⟨_, rfl⟩
  simp only [← ha1] at HL2 q1
  obtain ⟨a2, ha2⟩ : ∃ y, y = a + (z : Int) := ⟨_, rfl⟩
  simp only [← ha2] at HC q2 q3
  have e1 := ha1.symm
  have e2 := ha2.symm
  obtain ⟨a3, ha3⟩ : ∃ y, y = a2 - 1 := ⟨_, rfl⟩
  simp only [← ha3] at HC q3
  have e3 := ha3.symm
  clear heh hei hz hsz hs1 hs2 hl hle hf ha ho H ha1 ha2 ha3
  have lww : Later w w := Later.refl
  go_enter Tryz.func89, Tryz.ntmps89
  go_upto_region 1 with fail
  refine wp_name ?_
  intro w0 hw0
  obtain ⟨B0, B1, l0⟩ := box2 hw0
  have lw0 : Later w w0 := l0 w
  have l00 : Later w0 w0 := Later.refl
  clear hw0
  go_upto_region 2 with (go_at_call 138; refine (HP _).mono ?_; rintro r w1 ⟨rfl, hb1⟩; have l1 := later hb1)
  go_upto_region 5 with (go_at_call 139; refine (HL _).mono ?_; rintro r w2 ⟨rfl, hb2⟩; have l2 := later hb2)
  go_upto_region 6 with (go_at_call 139; refine (HL2 _).mono ?_; rintro r w3 ⟨rfl, hb3⟩; have l3 := later hb3)
  have l03 : Later w0 w3 := ⟨below_of⟩
  have lw3 : Later w w3 := lw0.trans l03
  have l33 : Later w3 w3 := Later.refl
  go_upto_region 7 with (go_at_call 140; refine (HD _).mono ?_; rintro r w4 ⟨rfl, hb4⟩; have l4 := later hb4)
  refine wp_name ?_
  intro w5 hw5
  have b5 : w5.heap[w4.heap.size]? = some (.cells #[.int .i64 h.kind, .int .i64 h.clas, .int .i64 h.fields] 73 (0, 0)) := (by rw [← hw5]; simp only [heap_alloc_if, World.size_alloc]; repeat (first | rw [if_pos trivial] | rw [if_neg (by omega)] | rw [if_pos (by omega)]); try rfl)
  have hb5 : Below w4.heap.size w4 w5 := by rw [← hw5]; exact (by repeat (first | with_reducible exact Below.refl _ _ | (with_reducible refine Below.drew ?_) | (with_reducible refine below_drewN ?_ _) | (with_reducible refine Below.alloc ?_ ?_ _; rotate_left; (first | omega | (simp <;> omega))) | (with_reducible refine Below.setCell ?_ ?_ _; rotate_left; (first | omega | (simp <;> omega)))))
  clear hw5
  have l34 : Later w3 w4 := ⟨below_of⟩
  have l35 : Later w3 w5 := ⟨l34.below.trans (hb5.mono l34.below.size)⟩
  have l05 : Later w0 w5 := l03.trans l35
  have lw5 : Later w w5 := lw0.trans l05
  have l55 : Later w5 w5 := Later.refl
  have B5 := boxed b5
  clear b5 hb5 hb4 l4
  go_upto_region 10 with (go_at_call 136; refine (HI _).mono ?_; rintro r w6 ⟨rfl, hb6⟩; have l6 := later hb6)
  go_upto_region 12 with (first
    | (go_at_call 122; refine (HW _).mono ?_; rintro r w7 ⟨rfl, hb7⟩; have l7 := later hb7)
    | (go_at_call 133; refine (HC _).mono ?_; rintro r w8 ⟨rfl, hb8⟩; have l8 := later hb8))
  go_wp2_with fail
  generalize hw9 : World.setCell (World.setCell (World.setCell _ _ _) _ _) _ _ = w9
  have B9 := boxed_set3 B1 hw9
  have l9 := later_put3 (W := w) (by show w.heap.size ≤ w.heap.size + 1; omega) (by show w.heap.size ≤ w.heap.size + 1; omega) (by show w.heap.size ≤ w.heap.size + 1; omega) hw9
  clear hw9
  have l99 : Later w9 w9 := Later.refl
  have r0 := ((B9 w9).2 0).1
  have r1 := ((B9 w9).2 1).1
  have r2 := ((B9 w9).2 2).1
  refine bodyPost_ret (v := .tuple #[h.v, .int .i64 0]) (by simp [results, Tryz.results89, go_sem, r0, r1, r2]) rfl ⟨rfl, below_of⟩
end Go.Proofs.YtjegncmkebbdfaaGreatDoor

namespace Go.Proofs.YtjegncmkebbdfaaGreatDoor
open Go.RowKit
attribute [local simp] heap_drew
attribute [local go_sem ↓] run_eql_id run_neq_id
set_option maxRecDepth 100000 in
set_option maxHeartbeats 8000000 in
theorem mid_any {base : Nat} {w : World} {M : MemE} (a : Int) {k : Nat} {h : HdE} {x : IDE} (H : MemAt base w M) (ha : a = 16777216 + k) (ho : ObjAt M.ws k h x) : Calls Tryz.prog 85 #[M.v, .int .i64 a] w fun r w' => r = .returned (.tuple #[x.v, .int .i64 0]) ∧ Below w.heap.size w w' := by
  have HH : ∀ u [Later w u], Calls Tryz.prog 89 #[M.v, .int .i64 a] u fun r w' => r = .returned (.tuple #[h.v, .int .i64 0]) ∧ Below u.heap.size u w' := fun u i => mheader_any a (H.later u) ha ho
  have HL : ∀ u [Later w u], Calls Tryz.prog 132 #[M.v, .int .i64 (a + 1)] u fun r w' => r = .returned (.tuple #[.int .u64 (encI x), .int .i64 0]) ∧ Below u.heap.size u w' := fun u i => mload_any (a + 1) (k := k + 1) (H.later u) (by omega) ho.id
  have HI := fun u : World => decodeID_any x u ho.ok'
  have hl := H.len
  have hle := ho.le
  have q1 : IntKind.i64.wrap (a + 1) = a + 1 := by rw [IntKind.wrap_i64]; omega
  obtain ⟨ei, hei⟩ : ∃ y, y = encI x := ⟨_, rfl⟩
  simp only [← hei] at HL HI
  obtain ⟨a1, ha1⟩ : ∃ y, y = a + 1 := ⟨_, rfl⟩
  simp only [← ha1] at HL q1
  have e1 := ha1.symm
  clear ha1 hei hl hle ha ho H
  have lww : Later w w := Later.refl
  go_enter Tryz.func85, Tryz.ntmps85
  go_upto_region 1 with fail
  refine wp_name ?_
  intro w0 hw0
  obtain ⟨B0, B1, l0⟩ := box2 hw0
  have lw0 : Later w w0 := l0 w
  have l00 : Later w0 w0 := Later.refl
  clear hw0
  go_upto_region 2 with (go_at_call 89; refine (HH _).mono ?_; rintro r w1 ⟨rfl, hb1⟩; have l1 := later hb1)
  refine wp_name ?_
  intro w2 hw2
  have hb2 : Below w1.heap.size w1 w2 := by rw [← hw2]; exact (by repeat (first | with_reducible exact Below.refl _ _ | (with_reducible refine Below.drew ?_) | (with_reducible refine below_drewN ?_ _) | (with_reducible refine Below.alloc ?_ ?_ _; rotate_left; (first | omega | (simp <;> omega))) | (with_reducible refine Below.setCell ?_ ?_ _; rotate_left; (first | omega | (simp <;> omega)))))
  clear hw2
  have l01 : Later w0 w1 := ⟨below_of⟩
  have l02 : Later w0 w2 := ⟨l01.below.trans (hb2.mono l01.below.size)⟩
  have lw2 : Later w w2 := lw0.trans l02
  have l22 : Later w2 w2 := Later.refl
  clear l1 hb1 hb2 l01
  go_upto_region 5 with (go_at_call 132; refine (HL _).mono ?_; rintro r w3 ⟨rfl, hb3⟩; have l3 := later hb3)
  go_wp2_with (go_at_call 136; refine (HI _).mono ?_; rintro r w4 ⟨rfl, hb4⟩; have l4 := later hb4)
  generalize hw9 : World.setCell (World.setCell _ _ _) _ _ = w9
  have B9 := boxed_set2 B1 hw9
  have l9 := later_put2 (W := w) (by show w.heap.size ≤ w.heap.size + 1; omega) (by show w.heap.size ≤ w.heap.size + 1; omega) hw9
  clear hw9
  have l99 : Later w9 w9 := Later.refl
  have r0 := ((B9 w9).2 0).1
  have r1 := ((B9 w9).2 1).1
  refine bodyPost_ret (v := .tuple #[x.v, .int .i64 0]) (by simp [results, Tryz.results85, go_sem, r0, r1]) rfl ⟨rfl, below_of⟩
def standsB (h : HdE) : Bool := decide (h.kind = 3 ∨ h.kind = 4)
set_option maxHeartbeats 2000000 in
theorem stands_any (h : HdE) (w : World) : Calls Tryz.prog 129 #[h.v] w fun r w' => r = .returned (.bool (standsB h)) ∧ Below w.heap.size w w' := by
  obtain ⟨S, hS⟩ : ∃ S, S = standsB h := ⟨_, rfl⟩
  rw [← hS]
  have HS := hide hS
  clear hS
  by_cases c3 : h.kind = 3
  · obtain rfl : S = true := by rw [HS.out]; unfold standsB; rw [decide_eq_true (.inl c3)]
    go_enter Tryz.func129, Tryz.ntmps129
    go_upto_region 1 with fail
    refine wp_name ?_
    intro w0 hw0
    obtain ⟨B0, l0⟩ := box1 hw0
    clear hw0
    go_wp2_with fail
    go_ret
    exact ⟨rfl, below_of⟩
  have b3 : (h.kind == 3) = false := by rw [beq_eq_false_iff_ne]; exact c3
  by_cases c4 : h.kind = 4
  · obtain rfl : S = true := by rw [HS.out]; unfold standsB; rw [decide_eq_true (.inr c4)]
    have b4 : (h.kind == 4) = true := by rw [beq_iff_eq]; exact c4
    clear c4
    go_enter Tryz.func129, Tryz.ntmps129
    go_upto_region 1 with fail
    refine wp_name ?_
    intro w0 hw0
    obtain ⟨B0, l0⟩ := box1 hw0
    clear hw0
    go_wp2_with fail
    go_ret
    exact ⟨rfl, below_of⟩
  · obtain rfl : S = false := by rw [HS.out]; unfold standsB; rw [decide_eq_false (by rintro (h | h); exact c3 h; exact c4 h)]
    have b4 : (h.kind == 4) = false := by rw [beq_eq_false_iff_ne]; exact c4
    go_enter Tryz.func129, Tryz.ntmps129
    go_upto_region 1 with fail
    refine wp_name ?_
    intro w0 hw0
    obtain ⟨B0, l0⟩ := box1 hw0
    clear hw0
    go_wp2_with fail
    go_ret
    exact ⟨rfl, below_of⟩
set_option maxRecDepth 100000 in
set_option maxHeartbeats 8000000 in
theorem mfield_any {base : Nat} {w : World} {M : MemE} (a : Int) {k i : Nat} {h : HdE} {x : IDE} (H : MemAt base w M) (ha : a = 16777216 + k) (ho : ObjAt M.ws k h x) (hst : standsB h = false) (hi : (i : Int) < h.fields) : Calls Tryz.prog 124 #[M.v, .int .i64 a, .int .i64 (i : Int)] w fun r w' => r = .returned (.tuple #[.int .i64 (a + 2 + (i : Int)), .int .i64 0]) ∧ Below w.heap.size w w' := by
  have HH : ∀ u [Later w u], Calls Tryz.prog 89 #[M.v, .int .i64 a] u fun r w' => r = .returned (.tuple #[h.v, .int .i64 0]) ∧ Below u.heap.size u w' := fun u i => mheader_any a (H.later u) ha ho
  have HS : ∀ u : World, Calls Tryz.prog 129 #[h.v] u fun r w' => r = .returned (.bool false) ∧ Below u.heap.size u w' := fun u => by
    have := stands_any h u
    rw [hst] at this
    exact this
  have hl := H.len
  have hle := ho.le
  have hf := ho.ok.f
  have q1 : IntKind.i64.wrap (a + 2) = a + 2 := by rw [IntKind.wrap_i64]; omega
  have q2 : IntKind.i64.wrap (a + 2 + (i : Int)) = a + 2 + (i : Int) := by rw [IntKind.wrap_i64]; omega
  have c1 : ¬ (i : Int) < 0 := by omega
  have c2 : ¬ h.fields ≤ (i : Int) := by omega
  clear hl hle hf ha ho H hst
  have lww : Later w w := Later.refl
  go_enter Tryz.func124, Tryz.ntmps124
  go_upto_region 1 with fail
  refine wp_name ?_
  intro w0 hw0
  obtain ⟨B0, l0⟩ := box1 hw0
  have lw0 : Later w w0 := l0 w
  have l00 : Later w0 w0 := Later.refl
  clear hw0
  go_upto_region 2 with (go_at_call 89; refine (HH _).mono ?_; rintro r w1 ⟨rfl, hb1⟩; have l1 := later hb1)
  refine wp_name ?_
  intro w2 hw2
  have b2 : w2.heap[w1.heap.size]? = some (.cells #[.int .i64 h.kind, .int .i64 h.clas, .int .i64 h.fields] 73 (0, 0)) := (by rw [← hw2]; simp only [heap_alloc_if, World.size_alloc]; repeat (first | rw [if_pos trivial] | rw [if_neg (by omega)] | rw [if_pos (by omega)]); try rfl)
  have hb2 : Below w1.heap.size w1 w2 := by rw [← hw2]; exact (by repeat (first | with_reducible exact Below.refl _ _ | (with_reducible refine Below.drew ?_) | (with_reducible refine below_drewN ?_ _) | (with_reducible refine Below.alloc ?_ ?_ _; rotate_left; (first | omega | (simp <;> omega))) | (with_reducible refine Below.setCell ?_ ?_ _; rotate_left; (first | omega | (simp <;> omega)))))
  clear hw2
  have l01 : Later w0 w1 := ⟨below_of⟩
  have l02 : Later w0 w2 := ⟨l01.below.trans (hb2.mono l01.below.size)⟩
  have lw2 : Later w w2 := lw0.trans l02
  have l22 : Later w2 w2 := Later.refl
  have B2 := boxed b2
  clear l1 hb1 hb2 l01 b2
  go_wp2_with (go_at_call 129; refine (HS _).mono ?_; rintro r w3 ⟨rfl, hb3⟩; have l3 := later hb3)
  exact bodyPost_ret (results_tmp2 rfl _ _ _) rfl ⟨rfl, below_of⟩
set_option maxRecDepth 100000 in
set_option maxHeartbeats 8000000 in
theorem mField_any {base : Nat} {w : World} {M : MemE} (a : Int) {k i : Nat} {h : HdE} {x : IDE} {y : Int} (H : MemAt base w M) (ha : a = 16777216 + k) (ho : ObjAt M.ws k h x) (hst : standsB h = false) (hi : (i : Int) < h.fields) (hy : M.ws[k + 2 + i]? = some y) : Calls Tryz.prog 80 #[M.v, .int .i64 a, .int .i64 (i : Int)] w fun r w' => r = .returned (.tuple #[.int .u64 y, .int .i64 0]) ∧ Below w.heap.size w w' := by
  have HH : ∀ u [Later w u], Calls Tryz.prog 124 #[M.v, .int .i64 a, .int .i64 (i : Int)] u fun r w' => r = .returned (.tuple #[.int .i64 (a + 2 + (i : Int)), .int .i64 0]) ∧ Below u.heap.size u w' := fun u _ => mfield_any a (H.later u) ha ho hst hi
  have HL : ∀ u [Later w u], Calls Tryz.prog 132 #[M.v, .int .i64 (a + 2 + (i : Int))] u fun r w' => r = .returned (.tuple #[.int .u64 y, .int .i64 0]) ∧ Below u.heap.size u w' := fun u _ => mload_any (a + 2 + (i : Int)) (k := k + 2 + i) (H.later u) (by omega) hy
  obtain ⟨a1, ha1⟩ : ∃ y, y = a + 2 + (i : Int) := ⟨_, rfl⟩
  simp only [← ha1] at HL HH
  clear ha1 ha ho H hst hi hy
  have lww : Later w w := Later.refl
  go_enter Tryz.func80, Tryz.ntmps80
  go_upto_region 1 with fail
  refine wp_name ?_
  intro w0 hw0
  obtain ⟨B0, l0⟩ := box1 hw0
  have lw0 : Later w w0 := l0 w
  have l00 : Later w0 w0 := Later.refl
  clear hw0
  go_upto_region 4 with (go_at_call 124; refine (HH _).mono ?_; rintro r w1 ⟨rfl, hb1⟩; have l1 := later hb1)
  go_wp2_with (go_at_call 132; refine (HL _).mono ?_; rintro r w3 ⟨rfl, hb3⟩; have l3 := later hb3)
  exact bodyPost_ret (results_tmp2 rfl _ _ _) rfl ⟨rfl, below_of⟩
end Go.Proofs.YtjegncmkebbdfaaGreatDoor

namespace Go.Proofs.YtjegncmkebbdfaaGreatDoor
open Go.RowKit
attribute [local simp] heap_drew
attribute [local go_sem ↓] run_eql_id run_neq_id
/-- A store into the words: what a callee leaves. -/
structure StPost (base : Nat) (w : World) (M : MemE) (k : Nat) (x : Int) (r : Ending) (w' : World) : Prop where
  ret : r = .returned (.int .i64 0)
  out : ∃ gw w1, M.A = some ⟨gw, 0, none⟩ ∧ Below w.heap.size w w1 ∧ w' = w1.setCell ⟨gw, k, none⟩ (.int .u64 x)
theorem MemAt.set {base : Nat} {w : World} {M : MemE} (H : MemAt base w M) {gw k : Nat} (hA : M.A = some ⟨gw, 0, none⟩) (hk : k < M.ws.length) (x : Int) : MemAt base (w.setCell ⟨gw, k, none⟩ (.int .u64 x)) { M with ws := M.ws.set k x } := by
  obtain ⟨gO, gY, A, c, ws⟩ := M
  simp only at hA
  subst hA
  have h1 : gw ≠ gO := fun e => own_off H.words.own H.old (by decide) (by rw [e]; rfl)
  have h2 : gw ≠ gY := fun e => own_off H.words.own H.young (by decide) (by rw [e]; rfl)
  exact ⟨(blk_far (p := ⟨gw, k, none⟩) (fun e => h1 e.symm) _).trans H.old, by
    have := (blk_far (p := ⟨gw, k, none⟩) (fun e => h2 e.symm) (Value.int .u64 x)).trans H.young
    unfold SpAt
    rw [List.length_set]
    exact this, H.words.put hk x, by rw [List.length_set]; exact H.len⟩
theorem StPost.mem {base : Nat} {w w' : World} {M : MemE} {k : Nat} {x : Int} {r : Ending} (h : StPost base w M k x r w') (H : MemAt base w M) (hk : k < M.ws.length) : MemAt base w' { M with ws := M.ws.set k x } := by
  obtain ⟨gw, w1, hA, hb, rfl⟩ := h.out
  exact (H.below hb).set hA hk x
/-- What is changed by a store into the words. -/
def memS (M : MemE) (j : Nat) : Prop := M.A = some ⟨j, 0, none⟩
theorem StPost.only {base : Nat} {w w' : World} {M : MemE} {k : Nat} {x : Int} {r : Ending} (h : StPost base w M k x r w') : Only (memS M) w w' := by
  obtain ⟨gw, w1, hA, hb, rfl⟩ := h.out
  exact (Only.of_below hb).setCell (p := ⟨gw, k, none⟩) (.inl hA) _
set_option maxHeartbeats 4000000 in
theorem mstore_any {base : Nat} {w : World} {M : MemE} (a : Int) {k : Nat} (x : Int) (h : MemAt base w M) (ha : a = 16777216 + k) (hk : k < M.ws.length) : Calls Tryz.prog 125 #[M.v, .int .i64 a, .int .u64 x] w (StPost base w M k x) := by
  have HP : ∀ u : World, Calls Tryz.prog 138 #[M.v, .int .i64 a] u fun r w' => r = .returned (spP M.gY) ∧ Below u.heap.size u w' := fun u => part_any (base := base) a (by omega)
  obtain ⟨gw, hA⟩ := h.words.isS hk
  have HL : ∀ u [Later w u], Calls Tryz.prog 165 #[spP M.gY, .int .i64 a, .int .u64 x] u fun r w' => r = .returned (.int .i64 0) ∧ ∃ w1, Below u.heap.size u w1 ∧ w' = w1.setCell ⟨gw, k, none⟩ (.int .u64 x) := fun u i => by
    have hu := h.later u
    rw [ha]
    have h1 := hu.young
    have h2 := hu.words
    rw [hA] at h1 h2
    exact spStore_any k x h1 hu.spin h2 hk
  clear h ha hk
  have lww : Later w w := Later.refl
  go_enter Tryz.func125, Tryz.ntmps125
  go_upto_region 1 with fail
  refine wp_name ?_
  intro w0 hw0
  obtain ⟨B0, l0⟩ := box1 hw0
  have lw0 : Later w w0 := l0 w
  clear hw0
  go_wp2_with (first
    | (go_at_call 138; refine (HP _).mono ?_; rintro r w1 ⟨rfl, hb1⟩; have l1 := later hb1)
    | (go_at_call 165; refine (HL _).mono ?_; rintro r w2 ⟨rfl, w3, hb2, rfl⟩; have l2 := later hb2))
  go_ret
  exact ⟨rfl, gw, w3, hA, below_of, rfl⟩
set_option maxRecDepth 100000 in
set_option maxHeartbeats 8000000 in
theorem msetField_any {base : Nat} {w : World} {M : MemE} (a : Int) {k i : Nat} {h : HdE} {x : IDE} (y : Int) (H : MemAt base w M) (ha : a = 16777216 + k) (ho : ObjAt M.ws k h x) (hst : standsB h = false) (hi : (i : Int) < h.fields) : Calls Tryz.prog 73 #[M.v, .int .i64 a, .int .i64 (i : Int), .int .u64 y] w (StPost base w M (k + 2 + i) y) := by
  have hlt : k + 2 + i < M.ws.length := by
    have := ho.le; unfold HdE.sz at this; omega
  have HH : ∀ u [Later w u], Calls Tryz.prog 124 #[M.v, .int .i64 a, .int .i64 (i : Int)] u fun r w' => r = .returned (.tuple #[.int .i64 (a + 2 + (i : Int)), .int .i64 0]) ∧ Below u.heap.size u w' := fun u _ => mfield_any a (H.later u) ha ho hst hi
  have HL : ∀ u [Later w u], Calls Tryz.prog 125 #[M.v, .int .i64 (a + 2 + (i : Int)), .int .u64 y] u (StPost base u M (k + 2 + i) y) := fun u _ => mstore_any (a + 2 + (i : Int)) y (H.later u) (by omega) hlt
  obtain ⟨a1, ha1⟩ : ∃ y, y = a + 2 + (i : Int) := ⟨_, rfl⟩
  simp only [← ha1] at HL HH
  obtain ⟨k', hk'⟩ : ∃ y, y = k + 2 + i := ⟨_, rfl⟩
  rw [← hk']
  simp only [← hk'] at HL
  clear ha1 hk' hlt ha ho H hst hi
  have lww : Later w w := Later.refl
  go_enter Tryz.func73, Tryz.ntmps73
  go_upto_region 1 with fail
  refine wp_name ?_
  intro w0 hw0
  obtain ⟨B0, l0⟩ := box1 hw0
  have lw0 : Later w w0 := l0 w
  have l00 : Later w0 w0 := Later.refl
  clear hw0
  go_upto_region 4 with (go_at_call 124; refine (HH _).mono ?_; rintro r w1 ⟨rfl, hb1⟩; have l1 := later hb1)
  go_wp2_with (go_at_call 125; refine (HL _).mono ?_; rintro r w3 ⟨rfl, gw, w2, hA, hb2, rfl⟩; have l3 := later hb2)
  go_ret
  exact ⟨rfl, gw, w2, hA, below_of, rfl⟩
set_option maxHeartbeats 2000000 in
theorem machine2_any (w : World) : Calls Tryz.prog 130 #[.int .i64 2] w fun r w' => r = .returned (.bool true) ∧ Below w.heap.size w w' := by
  go_enter Tryz.func130, Tryz.ntmps130
  go_wp2_with fail
  go_ret
  exact ⟨rfl, below_of⟩
set_option maxHeartbeats 2000000 in
theorem toStub1_any (h : HdE) (w : World) (hst : standsB h = false) : Calls Tryz.prog 128 #[h.v] w fun r w' => r = .returned (.bool true) ∧ Below w.heap.size w w' := by
  have HS : ∀ u : World, Calls Tryz.prog 129 #[h.v] u fun r w' => r = .returned (.bool false) ∧ Below u.heap.size u w' := fun u => by
    have := stands_any h u
    rw [hst] at this
    exact this
  go_enter Tryz.func128, Tryz.ntmps128
  go_upto_region 1 with fail
  refine wp_name ?_
  intro w0 hw0
  obtain ⟨B0, l0⟩ := box1 hw0
  clear hw0
  go_wp2_with (go_at_call 129; refine (HS _).mono ?_; rintro r w3 ⟨rfl, hb3⟩; have l3 := later hb3)
  go_ret
  exact ⟨rfl, below_of⟩
set_option maxRecDepth 100000 in
set_option maxHeartbeats 8000000 in
theorem mis_any {base : Nat} {w : World} {M : MemE} (a : Int) {k : Nat} {h : HdE} {x : IDE} (H : MemAt base w M) (ha : a = 16777216 + k) (ho : ObjAt M.ws k h x) (hst : standsB h = false) : Calls Tryz.prog 127 #[M.v, .int .i64 a, .func (.func 128) #[] #[]] w fun r w' => r = .returned (.int .i64 0) ∧ Below w.heap.size w w' := by
  have HH : ∀ u [Later w u], Calls Tryz.prog 89 #[M.v, .int .i64 a] u fun r w' => r = .returned (.tuple #[h.v, .int .i64 0]) ∧ Below u.heap.size u w' := fun u i => mheader_any a (H.later u) ha ho
  have HS := fun u : World => toStub1_any h u hst
  clear ha ho H hst
  have lww : Later w w := Later.refl
  go_enter Tryz.func127, Tryz.ntmps127
  go_upto_region 1 with fail
  refine wp_name ?_
  intro w0 hw0
  obtain ⟨B0, l0⟩ := box1 hw0
  have lw0 : Later w w0 := l0 w
  have l00 : Later w0 w0 := Later.refl
  clear hw0
  go_upto_region 2 with (go_at_call 89; refine (HH _).mono ?_; rintro r w1 ⟨rfl, hb1⟩; have l1 := later hb1)
  refine wp_name ?_
  intro w2 hw2
  have b2 : w2.heap[w1.heap.size]? = some (.cells #[.int .i64 h.kind, .int .i64 h.clas, .int .i64 h.fields] 73 (0, 0)) := (by rw [← hw2]; simp only [heap_alloc_if, World.size_alloc]; repeat (first | rw [if_pos trivial] | rw [if_neg (by omega)] | rw [if_pos (by omega)]); try rfl)
  have hb2 : Below w1.heap.size w1 w2 := by rw [← hw2]; exact (by repeat (first | with_reducible exact Below.refl _ _ | (with_reducible refine Below.drew ?_) | (with_reducible refine below_drewN ?_ _) | (with_reducible refine Below.alloc ?_ ?_ _; rotate_left; (first | omega | (simp <;> omega))) | (with_reducible refine Below.setCell ?_ ?_ _; rotate_left; (first | omega | (simp <;> omega)))))
  clear hw2
  have l01 : Later w0 w1 := ⟨below_of⟩
  have l02 : Later w0 w2 := ⟨l01.below.trans (hb2.mono l01.below.size)⟩
  have lw2 : Later w w2 := lw0.trans l02
  have l22 : Later w2 w2 := Later.refl
  have B2 := boxed b2
  clear l1 hb1 hb2 l01 b2
  go_wp2_with (go_at_call 128; refine (HS _).mono ?_; rintro r w3 ⟨rfl, hb3⟩; have l3 := later hb3)
  go_ret
  exact ⟨rfl, below_of⟩
end Go.Proofs.YtjegncmkebbdfaaGreatDoor

namespace Go.Proofs.YtjegncmkebbdfaaGreatDoor
open Go.RowKit
attribute [local simp] heap_drew
attribute [local go_sem ↓] run_eql_id run_neq_id
/-- The header of a stub. -/
abbrev HdE.stub (h : HdE) : HdE := { h with kind := 3 }
theorem HdOk.stub {h : HdE} (H : HdOk h) : HdOk h.stub := ⟨H.c, H.f, by simp, by simp, by simp⟩
/-- The words when j words of a stub's payload (machine 2, number 7) have been written. -/
def stubJ (ws : List Int) (k : Nat) : Nat → List Int
  | 0 => ws
  | j + 1 => (stubJ ws k j).set (k + 2 + j) (if j = 0 then 2 else 7)
theorem stubJ_len (ws : List Int) (k : Nat) : ∀ j, (stubJ ws k j).length = ws.length
  | 0 => rfl
  | j + 1 => by unfold stubJ; rw [List.length_set]; exact stubJ_len ws k j
def stubW (ws : List Int) (k : Nat) (h : HdE) : List Int := stubJ (ws.set k h.stub.enc) k 2
theorem stubW_len (ws : List Int) (k : Nat) (h : HdE) : (stubW ws k h).length = ws.length := by unfold stubW; rw [stubJ_len, List.length_set]
set_option maxRecDepth 100000 in
set_option maxHeartbeats 8000000 in
theorem mwrite_any {base pb : Nat} {w : World} {M : MemE} (a : Int) {k : Nat} {h : HdE} {x : IDE} (H : MemAt base w M) (ha : a = 16777216 + k) (ho : ObjAt M.ws k h x) (hf0 : h.fields ≤ 2) (hpb : w.heap[pb]? = some (.cells #[.int .u64 2, .int .u64 7] 34 (0, 0))) (hne : M.A ≠ some ⟨pb, 0, none⟩) :
    Calls Tryz.prog 131 #[M.v, .int .i64 a, .int .i64 3, .slice (some ⟨pb, 0, none⟩) 2 2] w fun r w' => r = .returned (.tuple #[]) ∧ MemAt base w' { M with ws := stubW M.ws k h } ∧ Only (memS M) w w' := by
  have hlt : k < M.ws.length := (List.getElem?_eq_some_iff.1 ho.hd).1
  have hsz : h.sz = 4 := by unfold HdE.sz; omega
  have hle := ho.le
  have hl := H.len
  have HH : ∀ u [Later w u], Calls Tryz.prog 89 #[M.v, .int .i64 a] u fun r w' => r = .returned (.tuple #[h.v, .int .i64 0]) ∧ Below u.heap.size u w' := fun u i => mheader_any a (H.later u) ha ho
  have HL : ∀ u [Later w u], Calls Tryz.prog 132 #[M.v, .int .i64 a] u fun r w' => r = .returned (.tuple #[.int .u64 h.enc, .int .i64 0]) ∧ Below u.heap.size u w' := fun u i => mload_any a (H.later u) ha ho.hd
  have HC := fun u : World => change_any h u ho.ok
  have HS : ∀ u [Later w u], Calls Tryz.prog 125 #[M.v, .int .i64 a, .int .u64 h.stub.enc] u (StPost base u M k h.stub.enc) := fun u _ => mstore_any a h.stub.enc (H.later u) ha hlt
  have HW : ∀ u : World, Calls Tryz.prog 122 #[h.v] u fun r w' => r = .returned (.int .i64 4) ∧ Below u.heap.size u w' := fun u => by
    have := words_any5 h u ho.ok
    rw [show (2 : Int) + max h.fields 2 = 4 by omega] at this
    exact this
  have hgw : ∀ j, memS M j → j < w.heap.size := fun j hj => by
    unfold memS at hj
    have := H.words.own
    rw [hj] at this
    exact this.lt
  have hpl := blk_lt hpb
  have lww : Later w w := Later.refl
  obtain ⟨eh, heh⟩ : ∃ y, y = h.enc := ⟨_, rfl⟩
  obtain ⟨es, hes⟩ : ∃ y, y = h.stub.enc := ⟨_, rfl⟩
  simp only [← heh] at HL HC
  simp only [← hes] at HC HS
  have Hes := hide hes
  have Ha := hide ha
  have Hsz := hide hsz
  clear heh hes ha hsz
  go_enter Tryz.func131, Tryz.ntmps131
  go_upto_region 1 with fail
  refine wp_name ?_
  intro w0 hw0
  obtain ⟨B0, l0⟩ := box1 hw0
  have lw0 : Later w w0 := l0 w
  have l00 : Later w0 w0 := Later.refl
  clear hw0
  go_upto_region 2 with (go_at_call 89; refine (HH _).mono ?_; rintro r w1 ⟨rfl, hb1⟩; have l1 := later hb1)
  refine wp_name ?_
  intro w2 hw2
  have b2 : w2.heap[w1.heap.size]? = some (.cells #[.int .i64 h.kind, .int .i64 h.clas, .int .i64 h.fields] 73 (0, 0)) := (by rw [← hw2]; simp only [heap_alloc_if, World.size_alloc]; repeat (first | rw [if_pos trivial] | rw [if_neg (by omega)] | rw [if_pos (by omega)]); try rfl)
  have hb2 : Below w1.heap.size w1 w2 := by rw [← hw2]; exact (by repeat (first | with_reducible exact Below.refl _ _ | (with_reducible refine Below.drew ?_) | (with_reducible refine below_drewN ?_ _) | (with_reducible refine Below.alloc ?_ ?_ _; rotate_left; (first | omega | (simp <;> omega))) | (with_reducible refine Below.setCell ?_ ?_ _; rotate_left; (first | omega | (simp <;> omega)))))
  clear hw2
  have l01 : Later w0 w1 := ⟨below_of⟩
  have l02 : Later w0 w2 := ⟨l01.below.trans (hb2.mono l01.below.size)⟩
  have lw2 : Later w w2 := lw0.trans l02
  have l22 : Later w2 w2 := Later.refl
  have hz1 : w.heap.size < w1.heap.size := by
    have h1 := l01.below.size
    have h2 := blk_lt (B0 w0).1
    omega
  obtain ⟨g8, hg8⟩ : ∃ z, z = w1.heap.size := ⟨_, rfl⟩
  rw [← hg8] at b2 ⊢ hz1
  have B2 := boxed b2
  clear l1 hb1 hb2 l01 b2 hg8
  go_upto_region 3 with (go_at_call 132; refine (HL _).mono ?_; rintro r w3 ⟨rfl, hb3⟩; have l3 := later hb3)
  go_upto_region 4 with (go_at_call 166; refine (HC _).mono ?_; rintro r w4 ⟨rfl, hb4⟩; have l4 := later hb4)
  have l24 : Later w2 w4 := ⟨below_of⟩
  have l04 : Later w0 w4 := l02.trans l24
  have lw4 : Later w w4 := lw2.trans l24
  have l44 : Later w4 w4 := Later.refl
  go_upto_region 5 with (go_at_call 125; refine (HS _).mono ?_; intro r w5 h5; obtain rfl := h5.ret)
  have H5 := h5.mem (H.later w4) hlt
  have O45 := h5.only
  have O5 : Only (memS M) w w5 := (Only.of_below lw4.below).trans O45
  clear h5
  have nS : ∀ j, w.heap.size ≤ j → ¬ memS M j := fun j hj e => by have := hgw j e; omega
  have b0 := O45.boxed (B0 w4).1 (nS _ (Nat.le_refl _))
  have b2 := O45.boxed (B2 w4).1 (nS _ (by omega))
  have bp := O5.boxed hpb hne
  have B0' := boxed b0
  have B2' := boxed b2
  have l55 : Later w5 w5 := Later.refl
  have H5r : MemAt base w5 { M with ws := stubJ (M.ws.set k es) k 0 } := H5
  clear H5
  go_upto_region 6 with (go_at_call 122; refine (HW _).mono ?_; rintro r w6 ⟨rfl, hb6⟩; have l6 := later hb6)
  have l56 : Later w5 w6 := ⟨below_of⟩
  have O6 := O5.trans (Only.of_below l56.below)
  have H6 := H5r.later w6
  have z56 := l56.below.size
  have zw5 := O5.size
  have b06 := (B0' w6).1
  have b26 := (B2' w6).1
  have bp6 := blk_below bp l56.below
  clear b0 b2 bp B0' B2' H5r O45 O5 HH HL HC HS HW l6 hb6 B0 B2
  go_wp2_with fail
  go_loopw [39] (fun jv wr => ∃ j : Nat, j ≤ 2 ∧ jv = .int .i64 j ∧ MemAt base wr { M with ws := stubJ (M.ws.set k es) k j } ∧ Only (memS M) w6 wr) (fun jv _ => 2 - (intOf jv).toNat)
  case atStart => exact ⟨0, by omega, rfl, H6, Only.refl⟩
  clear H6
  case round =>
    obtain ⟨j, hj, rfl, Hr, Or⟩ := hrel
    have lrr : Later wr wr := Later.refl
    by_cases hj2 : j = 2
    · subst hj2
      have hfin : MemAt base wr { M with ws := stubW M.ws k h } := by unfold stubW; rw [← Hes.out]; exact Hr
      have ofin := O6.trans Or
      clear Hr Or
      go_wp2_with fail
      exact bodyPost_end (v := .tuple #[]) (by simp [results, Tryz.results131, go_sem]) rfl ⟨rfl, hfin, ofin⟩
    have b0 := boxed (Or.boxed b06 (nS _ (Nat.le_refl _)))
    have bp := boxed (Or.boxed bp6 hne)
    have hll : (stubJ (M.ws.set k es) k j).length = M.ws.length := by rw [stubJ_len, List.length_set]
    have q1 : IntKind.i64.wrap (a + 2) = a + 2 := by rw [IntKind.wrap_i64]; have := Ha.out; omega
    have hk2 : k + 2 + j < M.ws.length := by have := Hsz.out; omega
    obtain ⟨a7, ha7⟩ : ∃ y, y = a + 2 + (j : Int) := ⟨_, rfl⟩
    have HS7 : ∀ (y : Int) (u : World) [Later wr u], Calls Tryz.prog 125 #[M.v, .int .i64 a7, .int .u64 y] u (StPost base u { M with ws := stubJ (M.ws.set k es) k j } (k + 2 + j) y) := fun y u _ =>
      mstore_any (M := { M with ws := stubJ (M.ws.set k es) k j }) a7 y (Hr.later u) (by rw [ha7, Ha.out]; omega) (by show k + 2 + j < (stubJ _ k j).length; rw [hll]; exact hk2)
    have hmem : ∀ (y : Int) (u w' : World) (r : Ending), Later wr u → StPost base u { M with ws := stubJ (M.ws.set k es) k j } (k + 2 + j) y r w' → MemAt base w' { M with ws := (stubJ (M.ws.set k es) k j).set (k + 2 + j) y } ∧ Only (memS M) w6 w' := fun y u w' r i hs =>
      ⟨hs.mem (Hr.later u) (by show k + 2 + j < (stubJ _ k j).length; rw [hll]; exact hk2), (Or.trans (Only.of_below i.below)).trans hs.only⟩
    have Hm := hide hmem
    have Ha7 := hide ha7
    clear hmem ha7 hk2 hll Hr Or
    rcases (by omega : j = 0 ∨ j = 1) with rfl | rfl
    · have e7 : a7 = a + 2 := by rw [Ha7.out]; simp
      clear Ha7
      subst e7
      go_wp2_with (go_at_call 125; refine (HS7 2 _).mono ?_; intro r w7 h7; obtain rfl := h7.ret; obtain ⟨m7, o7⟩ := Hm.out 2 _ _ _ (by infer_instance) h7)
      go_roundw
      case rel => exact ⟨1, by omega, by go_num, m7, o7⟩
      case measure => simp [intOf]
    · have q4 : wrap64 (a + 2 + 1) = a7 := by rw [Ha7.out]; unfold wrap64; have := Ha.out; omega
      go_wp2_with (go_at_call 125; refine (HS7 7 _).mono ?_; intro r w7 h7; obtain rfl := h7.ret; obtain ⟨m7, o7⟩ := Hm.out 7 _ _ _ (by infer_instance) h7)
      go_roundw
      case rel => exact ⟨2, by omega, by go_num, m7, o7⟩
      case measure => simp [intOf]
end Go.Proofs.YtjegncmkebbdfaaGreatDoor
