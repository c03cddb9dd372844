/-
  Small texts of this seat, put into one. Conditions stand in each theorem.
-/
import Derived.Test.YtjegncmkebbdfaaGreatDoorHVal
import Derived.Test.YtjegncmkebbdfaaGreatDoorGrp63
import Derived.Deep.RegionHeld3
set_option linter.unusedSimpArgs false
set_option linter.unusedVariables false
namespace Go.Proofs.YtjegncmkebbdfaaGreatDoor
open Go.RowKit
attribute [local simp] heap_drew
attribute [local go_sem ↓] run_eql_id run_neq_id
attribute [local go_sem] Instr.makeFunc
set_option maxRecDepth 100000 in
set_option maxHeartbeats 4000000 in
theorem hobjects_any {b0 : Nat} {P : HpE} {off : Nat → Nat} {N : Nat} (w : World) (H : HpAt b0 w P) (R : RowObj P.M.ws off N) (hN : N ≤ 5000) (hK : ∀ j, j < N → ∃ h x, ObjAt P.M.ws (off j) h x ∧ h.kind ≠ 4) :
    Calls Tryz.prog 41 #[spP P.gh] w fun r w' => ∃ A c, r = .returned (.slice A N c) ∧ Own W64.cells 1 34 w.heap.size w' (.slice A N c) (adsL off N) ∧ Below w.heap.size w w' := by
  have HE : ∀ u, Below w.heap.size w u → WBox w.heap.size w.heap.size [] u → Calls Tryz.prog 86 #[spP P.gh, .func (.func 87) #[] #[.pointer (some ⟨w.heap.size, 0, none⟩)]] u fun r w' => r = .returned (.tuple #[]) ∧ WBox w.heap.size w.heap.size (adsL off N) w' ∧ Below w.heap.size w w' := fun u hu hB => heach_any u H R hN hK hu hB (Nat.le_refl _)
  have lww : Later w w := Later.refl
  clear H R hK
  go_enter Tryz.func41, Tryz.ntmps41
  go_upto_region 2 with fail
  refine wp_name ?_
  intro w0 hw0
  obtain ⟨B0, l0⟩ := box1 hw0
  have lw0 : Later w w0 := l0 w
  have l00 : Later w0 w0 := Later.refl
  clear hw0
  have hB0 : WBox w.heap.size w.heap.size [] w0 := ⟨none, 0, (B0 w0).1, Own.nil⟩
  go_upto_region 3 with (go_at_call 86; refine (HE _ lw0.below hB0).mono ?_; rintro r w1 ⟨rfl, ⟨A, c, hA, ho⟩, hb1⟩)
  have l11 : Later w1 w1 := Later.refl
  rw [adsL_len] at hA ho
  have V := boxed hA
  go_wp2_with fail
  go_ret
  exact ⟨A, c, rfl, ho, hb1⟩
set_option maxRecDepth 100000 in
set_option maxHeartbeats 4000000 in
theorem hID1_any {base b1 b2 : Nat} {w : World} {P : HpE} (a : Int) {k : Nat} {h : HdE} {x : IDE} (H : HpAt base w P) (ha : a = 16777216 + k) (ho : ObjAt P.M.ws k h x)
    (h1 : w.heap[b1]? = some (.cells #[spP P.gh] 37 (0, 0))) (h2 : w.heap[b2]? = some (.cells #[.int .i64 0, .int .i64 0] 44 (0, 0))) :
    Calls Tryz.prog 84 #[.int .i64 a, .pointer (some ⟨b1, 0, none⟩), .pointer (some ⟨b2, 0, none⟩)] w fun r w' => r = .returned (.int .i64 0) ∧ w'.heap[b2]? = some (.cells #[.int .i64 x.machine, .int .i64 x.serial] 44 (0, 0)) ∧ Only (fun j => j = b2) w w' := by
  have B1 := boxed h1
  have B2 := boxed h2
  have BH := boxed H.hd
  have HI : ∀ u [Later w u], Calls Tryz.prog 85 #[P.M.v, .int .i64 a] u fun r w' => r = .returned (.tuple #[x.v, .int .i64 0]) ∧ Below u.heap.size u w' := fun u _ => mid_any a (H.later u).mem ha ho
  clear h1 h2 H ha ho
  have lww : Later w w := Later.refl
  go_enter Tryz.func84, Tryz.ntmps84
  go_wp2_with (go_at_call 85; refine (HI _).mono ?_; rintro r w1 ⟨rfl, hb1⟩; have l1 := later hb1)
  go_ret
  have q := (B2 w1).1
  have o := Only.of_below (s := fun j => j = b2) (show Below w.heap.size w w1 from below_of)
  exact ⟨rfl, blk_set (blk_set q 0 _) 1 _, (o.setCell (p := ⟨b2, 0, none⟩) (.inl rfl) _).setCell (p := ⟨b2, 1, none⟩) (.inl rfl) _⟩
set_option maxRecDepth 100000 in
set_option maxHeartbeats 4000000 in
theorem honID_any {base b1 b2 : Nat} {w : World} {P : HpE} {k : Nat} {h : HdE} {x : IDE} (H : HpAt base w P) (ho : ObjAt P.M.ws k h x) (hk : h.kind ≠ 4)
    (h1 : w.heap[b1]? = some (.cells #[spP P.gh] 37 (0, 0))) (h2 : w.heap[b2]? = some (.cells #[.int .i64 0, .int .i64 0] 44 (0, 0))) :
    Calls Tryz.prog 78 #[spP P.gh, .int .u64 (adW k), .func (.func 84) #[] #[.pointer (some ⟨b1, 0, none⟩), .pointer (some ⟨b2, 0, none⟩)]] w fun r w' => r = .returned (.int .i64 0) ∧ w'.heap[b2]? = some (.cells #[.int .i64 x.machine, .int .i64 x.serial] 44 (0, 0)) ∧ Only (fun j => j = b2) w w' := by
  have HP : ∀ u [Later w u], Calls Tryz.prog 91 #[spP P.gh, .int .u64 (adW k)] u fun r w' => r = .returned (.tuple #[.int .i64 (16777216 + (k : Int)), .bool true]) ∧ Below u.heap.size u w' := fun u _ => pointer_any (H.later u) ho hk
  have HC : ∀ u [Later w u], Calls Tryz.prog 84 #[.int .i64 (16777216 + (k : Int)), .pointer (some ⟨b1, 0, none⟩), .pointer (some ⟨b2, 0, none⟩)] u fun r w' => r = .returned (.int .i64 0) ∧ w'.heap[b2]? = some (.cells #[.int .i64 x.machine, .int .i64 x.serial] 44 (0, 0)) ∧ Only (fun j => j = b2) u w' := fun u j =>
    hID1_any _ (H.later u) rfl ho (blk_below h1 j.below) (blk_below h2 j.below)
  obtain ⟨v, hv⟩ : ∃ y, y = adW k := ⟨_, rfl⟩
  obtain ⟨a, ha⟩ : ∃ y, y = 16777216 + (k : Int) := ⟨_, rfl⟩
  rw [← hv]
  simp only [← hv, ← ha] at HP HC
  clear hv ha H ho hk h1 h2
  have lww : Later w w := Later.refl
  go_enter Tryz.func78, Tryz.ntmps78
  go_upto_region 4 with (go_at_call 91; refine (HP _).mono ?_; rintro r w1 ⟨rfl, hb1⟩; have l1 := later hb1)
  go_wp2_with (go_at_call 84; refine (HC _).mono ?_; rintro r w2 ⟨rfl, hm2, ho2⟩; have o2 := (Only.of_below (s := fun j => j = b2) (show Below w.heap.size w _ from below_of)).trans ho2)
  go_ret
  exact ⟨rfl, hm2, o2⟩
set_option maxRecDepth 100000 in
set_option maxHeartbeats 4000000 in
theorem hID_any {base : Nat} {w : World} {P : HpE} {k : Nat} {h : HdE} {x : IDE} (H : HpAt base w P) (ho : ObjAt P.M.ws k h x) (hk : h.kind ≠ 4) :
    Calls Tryz.prog 40 #[spP P.gh, .int .u64 (adW k)] w fun r w' => r = .returned (.tuple #[x.v, .int .i64 0]) ∧ Below w.heap.size w w' := by
  have HC : ∀ (b1 b2 : Nat) (u : World) [Later w u], u.heap[b1]? = some (.cells #[spP P.gh] 37 (0, 0)) → u.heap[b2]? = some (.cells #[.int .i64 0, .int .i64 0] 44 (0, 0)) → Calls Tryz.prog 78 #[spP P.gh, .int .u64 (adW k), .func (.func 84) #[] #[.pointer (some ⟨b1, 0, none⟩), .pointer (some ⟨b2, 0, none⟩)]] u fun r w' => r = .returned (.int .i64 0) ∧ w'.heap[b2]? = some (.cells #[.int .i64 x.machine, .int .i64 x.serial] 44 (0, 0)) ∧ Only (fun j => j = b2) u w' := fun b1 b2 u _ h1 h2 =>
    honID_any (H.later u) ho hk h1 h2
  obtain ⟨v, hv⟩ : ∃ y, y = adW k := ⟨_, rfl⟩
  rw [← hv]
  simp only [← hv] at HC
  clear hv H ho hk
  have lww : Later w w := Later.refl
  go_enter Tryz.func40, Tryz.ntmps40
  go_upto_region 1 with fail
  refine wp_name ?_
  intro w0 hw0
  obtain ⟨B0, B1, l0⟩ := box2 hw0
  have lw0 : Later w w0 := l0 w
  have l00 : Later w0 w0 := Later.refl
  clear hw0
  have k0 := (B0 w0).1
  have k1 := (B1 w0).1
  go_upto_region 2 with (go_at_call 78; refine (HC _ _ w0 k0 k1).mono ?_; rintro r w1 ⟨rfl, hx1, ho1⟩)
  have lw1 : Later w w1 := ⟨lw0.below.trans (ho1.below (fun j e => by omega) lw0.below.size)⟩
  have l11 : Later w1 w1 := Later.refl
  have X1 := boxed hx1
  clear k0 k1 l0 HC B0 B1
  go_wp2_with fail
  generalize hw9 : World.setCell (World.setCell _ _ _) _ _ = w9
  have B9 := boxed_set2 X1 hw9
  have l9 : Later w w9 := ⟨by
    have hb := lw1.below
    rw [← hw9]
    repeat (first | exact hb | refine Below.setCell ?_ (by simp) _)⟩
  clear hw9
  have l99 : Later w9 w9 := Later.refl
  have r0 := (B9 w9).2
  refine bodyPost_ret (v := .tuple #[x.v, .int .i64 0]) (by simp [results, Tryz.results40, go_sem, (r0 0).1, (r0 1).1, (r0 2).1]) rfl ⟨rfl, l9.below⟩
set_option maxRecDepth 100000 in
set_option maxHeartbeats 4000000 in
theorem hHeader1_any {base b1 b2 : Nat} {w : World} {P : HpE} (a : Int) {k : Nat} {h : HdE} {x : IDE} (H : HpAt base w P) (ha : a = 16777216 + k) (ho : ObjAt P.M.ws k h x)
    (h1 : w.heap[b1]? = some (.cells #[spP P.gh] 37 (0, 0))) (h2 : w.heap[b2]? = some (.cells #[.int .i64 0, .int .i64 0, .int .i64 0] 73 (0, 0))) :
    Calls Tryz.prog 88 #[.int .i64 a, .pointer (some ⟨b1, 0, none⟩), .pointer (some ⟨b2, 0, none⟩)] w fun r w' => r = .returned (.int .i64 0) ∧ w'.heap[b2]? = some (.cells #[.int .i64 h.kind, .int .i64 h.clas, .int .i64 h.fields] 73 (0, 0)) ∧ Only (fun j => j = b2) w w' := by
  have B1 := boxed h1
  have B2 := boxed h2
  have BH := boxed H.hd
  have HI : ∀ u [Later w u], Calls Tryz.prog 89 #[P.M.v, .int .i64 a] u fun r w' => r = .returned (.tuple #[h.v, .int .i64 0]) ∧ Below u.heap.size u w' := fun u _ => mheader_any a (H.later u).mem ha ho
  clear h1 h2 H ha ho
  have lww : Later w w := Later.refl
  go_enter Tryz.func88, Tryz.ntmps88
  go_wp2_with (go_at_call 89; refine (HI _).mono ?_; rintro r w1 ⟨rfl, hb1⟩; have l1 := later hb1)
  go_ret
  have q := (B2 w1).1
  have o := Only.of_below (s := fun j => j = b2) (show Below w.heap.size w w1 from below_of)
  exact ⟨rfl, blk_set (blk_set (blk_set q 0 _) 1 _) 2 _, ((o.setCell (p := ⟨b2, 0, none⟩) (.inl rfl) _).setCell (p := ⟨b2, 1, none⟩) (.inl rfl) _).setCell (p := ⟨b2, 2, none⟩) (.inl rfl) _⟩
set_option maxRecDepth 100000 in
set_option maxHeartbeats 4000000 in
theorem honHeader_any {base b1 b2 : Nat} {w : World} {P : HpE} {k : Nat} {h : HdE} {x : IDE} (H : HpAt base w P) (ho : ObjAt P.M.ws k h x) (hk : h.kind ≠ 4)
    (h1 : w.heap[b1]? = some (.cells #[spP P.gh] 37 (0, 0))) (h2 : w.heap[b2]? = some (.cells #[.int .i64 0, .int .i64 0, .int .i64 0] 73 (0, 0))) :
    Calls Tryz.prog 78 #[spP P.gh, .int .u64 (adW k), .func (.func 88) #[] #[.pointer (some ⟨b1, 0, none⟩), .pointer (some ⟨b2, 0, none⟩)]] w fun r w' => r = .returned (.int .i64 0) ∧ w'.heap[b2]? = some (.cells #[.int .i64 h.kind, .int .i64 h.clas, .int .i64 h.fields] 73 (0, 0)) ∧ Only (fun j => j = b2) w w' := by
  have HP : ∀ u [Later w u], Calls Tryz.prog 91 #[spP P.gh, .int .u64 (adW k)] u fun r w' => r = .returned (.tuple #[.int .i64 (16777216 + (k : Int)), .bool true]) ∧ Below u.heap.size u w' := fun u _ => pointer_any (H.later u) ho hk
  have HC : ∀ u [Later w u], Calls Tryz.prog 88 #[.int .i64 (16777216 + (k : Int)), .pointer (some ⟨b1, 0, none⟩), .pointer (some ⟨b2, 0, none⟩)] u fun r w' => r = .returned (.int .i64 0) ∧ w'.heap[b2]? = some (.cells #[.int .i64 h.kind, .int .i64 h.clas, .int .i64 h.fields] 73 (0, 0)) ∧ Only (fun j => j = b2) u w' := fun u j =>
    hHeader1_any _ (H.later u) rfl ho (blk_below h1 j.below) (blk_below h2 j.below)
  obtain ⟨v, hv⟩ : ∃ y, y = adW k := ⟨_, rfl⟩
  obtain ⟨a, ha⟩ : ∃ y, y = 16777216 + (k : Int) := ⟨_, rfl⟩
  rw [← hv]
  simp only [← hv, ← ha] at HP HC
  clear hv ha H ho hk h1 h2
  have lww : Later w w := Later.refl
  go_enter Tryz.func78, Tryz.ntmps78
  go_upto_region 4 with (go_at_call 91; refine (HP _).mono ?_; rintro r w1 ⟨rfl, hb1⟩; have l1 := later hb1)
  go_wp2_with (go_at_call 88; refine (HC _).mono ?_; rintro r w2 ⟨rfl, hm2, ho2⟩; have o2 := (Only.of_below (s := fun j => j = b2) (show Below w.heap.size w _ from below_of)).trans ho2)
  go_ret
  exact ⟨rfl, hm2, o2⟩
set_option maxRecDepth 100000 in
set_option maxHeartbeats 4000000 in
theorem hHeader_any {base : Nat} {w : World} {P : HpE} {k : Nat} {h : HdE} {x : IDE} (H : HpAt base w P) (ho : ObjAt P.M.ws k h x) (hk : h.kind ≠ 4) :
    Calls Tryz.prog 42 #[spP P.gh, .int .u64 (adW k)] w fun r w' => r = .returned (.tuple #[h.v, .int .i64 0]) ∧ Below w.heap.size w w' := by
  have HC : ∀ (b1 b2 : Nat) (u : World) [Later w u], u.heap[b1]? = some (.cells #[spP P.gh] 37 (0, 0)) → u.heap[b2]? = some (.cells #[.int .i64 0, .int .i64 0, .int .i64 0] 73 (0, 0)) → Calls Tryz.prog 78 #[spP P.gh, .int .u64 (adW k), .func (.func 88) #[] #[.pointer (some ⟨b1, 0, none⟩), .pointer (some ⟨b2, 0, none⟩)]] u fun r w' => r = .returned (.int .i64 0) ∧ w'.heap[b2]? = some (.cells #[.int .i64 h.kind, .int .i64 h.clas, .int .i64 h.fields] 73 (0, 0)) ∧ Only (fun j => j = b2) u w' := fun b1 b2 u _ h1 h2 =>
    honHeader_any (H.later u) ho hk h1 h2
  obtain ⟨v, hv⟩ : ∃ y, y = adW k := ⟨_, rfl⟩
  rw [← hv]
  simp only [← hv] at HC
  clear hv H ho hk
  have lww : Later w w := Later.refl
  go_enter Tryz.func42, Tryz.ntmps42
  go_upto_region 1 with fail
  refine wp_name ?_
  intro w0 hw0
  obtain ⟨B0, B1, l0⟩ := box2 hw0
  have lw0 : Later w w0 := l0 w
  have l00 : Later w0 w0 := Later.refl
  clear hw0
  have k0 := (B0 w0).1
  have k1 := (B1 w0).1
  go_upto_region 2 with (go_at_call 78; refine (HC _ _ w0 k0 k1).mono ?_; rintro r w1 ⟨rfl, hx1, ho1⟩)
  have lw1 : Later w w1 := ⟨lw0.below.trans (ho1.below (fun j e => by omega) lw0.below.size)⟩
  have l11 : Later w1 w1 := Later.refl
  have X1 := boxed hx1
  clear k0 k1 l0 HC B0 B1
  go_wp2_with fail
  generalize hw9 : World.setCell (World.setCell (World.setCell _ _ _) _ _) _ _ = w9
  have B9 := boxed_set3 X1 hw9
  have l9 : Later w w9 := ⟨by
    have hb := lw1.below
    rw [← hw9]
    repeat (first | exact hb | refine Below.setCell ?_ (by simp) _)⟩
  clear hw9
  have l99 : Later w9 w9 := Later.refl
  have r0 := (B9 w9).2
  refine bodyPost_ret (v := .tuple #[h.v, .int .i64 0]) (by simp [results, Tryz.results42, go_sem, (r0 0).1, (r0 1).1, (r0 2).1]) rfl ⟨rfl, l9.below⟩
end Go.Proofs.YtjegncmkebbdfaaGreatDoor

namespace Go.Proofs.YtjegncmkebbdfaaGreatDoor
open Go.RowKit
attribute [local simp] heap_drew
attribute [local go_sem ↓] run_eql_id run_neq_id
attribute [local go_sem] Instr.makeFunc
def GetPost (b3 : Nat) (y : Int) (w : World) (r : Ending) (w' : World) : Prop := r = .returned (.int .i64 0) ∧ w'.heap[b3]? = some (.cells #[.int .u64 y] 34 (0, 0)) ∧ Only (fun j => j = b3) w w'
theorem kindW_of {y : Int} (h : y = 0 ∨ y % 4 = 1) : kindW y ≠ 2 := by
  unfold kindW
  rcases h with h | h
  · rw [if_pos h]; decide
  · by_cases h0 : y = 0
    · rw [if_pos h0]; decide
    · rw [if_neg h0, if_pos h]; decide
set_option maxRecDepth 100000 in
set_option maxHeartbeats 8000000 in
theorem hGet1_any {base b1 b2 b3 : Nat} {w : World} {P : HpE} (a : Int) {k i : Nat} {h : HdE} {x : IDE} {y : Int} (H : HpAt base w P) (ha : a = 16777216 + k) (ho : ObjAt P.M.ws k h x) (hst : standsB h = false) (hi : (i : Int) < h.fields) (hy : P.M.ws[k + 2 + i]? = some y) (hv : ValW P.M.ws y)
    (h1 : w.heap[b1]? = some (.cells #[spP P.gh] 37 (0, 0))) (h2 : w.heap[b2]? = some (.cells #[.int .i64 (i : Int)] 3 (0, 0))) (h3 : w.heap[b3]? = some (.cells #[.int .u64 0] 34 (0, 0))) (h3' : ¬ memS P.M b3) :
    Calls Tryz.prog 90 #[.int .i64 a, .pointer (some ⟨b1, 0, none⟩), .pointer (some ⟨b2, 0, none⟩), .pointer (some ⟨b3, 0, none⟩)] w (GetPost b3 y w) := by
  unfold GetPost
  have B1 := boxed h1
  have B2 := boxed h2
  have B3 := boxed h3
  have BH := boxed H.hd
  have HF : ∀ u [Later w u], Calls Tryz.prog 80 #[P.M.v, .int .i64 a, .int .i64 (i : Int)] u fun r w' => r = .returned (.tuple #[.int .u64 y, .int .i64 0]) ∧ Below u.heap.size u w' := fun u _ => mField_any a (H.later u).mem ha ho hst hi hy
  have m1 : b1 ≠ b3 := ne_types h1 h3 (by decide)
  have m2 : b2 ≠ b3 := ne_types h2 h3 (by decide)
  have mh : P.gh ≠ b3 := ne_types H.hd h3 (by decide)
  have HH : ∀ u, Only (fun j => j = b3) w u → HpAt base u P := fun u o => H.frame o (ne_types H.hd h3 (by decide)) (ne_types H.log h3 (by decide)) (ne_types H.mem.old h3 (by decide)) (ne_types H.mem.young h3 (by decide)) (fun j hj e => h3' (e ▸ hj))
  have cx : ∀ u [Later w u], u.cell? ⟨b1, 0, none⟩ = some (.pointer (some ⟨P.gh, 0, none⟩)) ∧ u.cell? ⟨P.gh, 1, none⟩ = some (.pointer (some ⟨P.M.gO, 0, none⟩)) ∧ u.cell? ⟨P.gh, 2, none⟩ = some (.pointer (some ⟨P.M.gY, 0, none⟩)) ∧ u.cell? ⟨b2, 0, none⟩ = some (.int .i64 (i : Int)) := fun u _ => ⟨((B1 u).2 0).1, ((BH u).2 1).1, ((BH u).2 2).1, ((B2 u).2 0).1⟩
  have cz : ∀ u [Later w u] (v : Value), (u.setCell ⟨b3, 0, none⟩ v).cell? ⟨b1, 0, none⟩ = some (.pointer (some ⟨P.gh, 0, none⟩)) ∧ (u.setCell ⟨b3, 0, none⟩ v).cell? ⟨P.gh, 1, none⟩ = some (.pointer (some ⟨P.M.gO, 0, none⟩)) ∧ (u.setCell ⟨b3, 0, none⟩ v).cell? ⟨P.gh, 2, none⟩ = some (.pointer (some ⟨P.M.gY, 0, none⟩)) ∧ (u.setCell ⟨b3, 0, none⟩ v).cell? ⟨b2, 0, none⟩ = some (.int .i64 (i : Int)) := fun u _ v =>
    ⟨blk_cell ((blk_far (p := ⟨b3, 0, none⟩) m1 v).trans (B1 u).1) 0, blk_cell ((blk_far (p := ⟨b3, 0, none⟩) mh v).trans (BH u).1) 1, blk_cell ((blk_far (p := ⟨b3, 0, none⟩) mh v).trans (BH u).1) 2, blk_cell ((blk_far (p := ⟨b3, 0, none⟩) m2 v).trans (B2 u).1) 0⟩
  have Hd2 := fun u o => (HH u o).hd
  clear ha ho hst hi hy h2 h3 h3' H
  have lww : Later w w := Later.refl
  go_enter Tryz.func90, Tryz.ntmps90
  go_upto_region 1 with fail
  obtain ⟨c1, c2, c3, c4⟩ := cx w
  go_region_held3 (fun w' => w'.cell? ⟨b1, 0, none⟩ = some (.pointer (some ⟨P.gh, 0, none⟩)) ∧ w'.cell? ⟨P.gh, 1, none⟩ = some (.pointer (some ⟨P.M.gO, 0, none⟩)) ∧ w'.cell? ⟨P.gh, 2, none⟩ = some (.pointer (some ⟨P.M.gY, 0, none⟩)) ∧ w'.cell? ⟨b2, 0, none⟩ = some (.int .i64 (i : Int))) (first | exact cx _ | exact cz _ _)
    ((go_at_call 80; refine (HF _).mono ?_; rintro r w1 ⟨rfl, hb1⟩; have l1 := later hb1; have lw1 : Later w w1 := ⟨below_of⟩))
  go_upto_region 2 with fail
  refine wp_name ?_
  intro w2 hw2
  have o2 : Only (fun j => j = b3) w w2 := by rw [← hw2]; exact (Only.of_below (s := fun j => j = b3) lw1.below).setCell (p := ⟨b3, 0, none⟩) (.inl rfl) _
  have X3 : w2.heap[b3]? = some (.cells #[.int .u64 y] 34 (0, 0)) := by rw [← hw2]; exact blk_set (B3 w1).1 0 _
  have H2 := HH w2 o2
  have D1 := boxed (o2.boxed h1 m1)
  have D3 := boxed X3
  have l22 : Later w2 w2 := Later.refl
  clear hw2 c1 c2 c3 c4 cx cz B1 B2 B3 BH l1 lw1 hb1 lww HF Hd2 HH h1
  rcases hv with ⟨hv1, hv0⟩ | ⟨k', h', x', hyk, ho', hk'⟩
  · have HP : ∀ u [Later w2 u], Calls Tryz.prog 91 #[spP P.gh, .int .u64 y] u fun r w' => r = .returned (.tuple #[.int .i64 0, .bool false]) ∧ Below u.heap.size u w' := fun u _ => pointer_no y hv1 (kindW_of hv0)
    clear hv1 hv0 H2
    go_wp2_with (go_at_call 91; refine (HP _).mono ?_; rintro r w5 ⟨rfl, hb5⟩; have l5 := later hb5)
    go_ret
    exact ⟨rfl, (D3 w5).1, o2.trans (Only.of_below below_of)⟩
  · obtain ⟨ta, hto⟩ : ∃ t : Int, t = 16777216 + (k' : Int) := ⟨_, rfl⟩
    have hk5 : k' ≤ 5000 := by have := ho'.le; have := H2.mem.len; omega
    have HP : ∀ u [Later w2 u], Calls Tryz.prog 91 #[spP P.gh, .int .u64 y] u fun r w' => r = .returned (.tuple #[.int .i64 ta, .bool true]) ∧ Below u.heap.size u w' := fun u _ => by
      rw [hyk, hto]
      exact pointer_any (H2.later u) ho' hk'
    have HA : ∀ u : World, Calls Tryz.prog 74 #[.int .i64 ta] u fun r w' => r = .returned (.int .u64 y) ∧ Below u.heap.size u w' := fun u => by
      have := at_any ta u (by omega) (by omega)
      rw [show ta * 4 + 2 = y by rw [hyk, hto]; rfl] at this
      exact this
    clear hyk ho' hk' hto hk5 H2
    go_upto_region 4 with (go_at_call 91; refine (HP _).mono ?_; rintro r w5 ⟨rfl, hb5⟩; have l5 := later hb5)
    go_wp2_with (go_at_call 74; refine (HA _).mono ?_; rintro r w6 ⟨rfl, hb6⟩; have l6 := later hb6)
    go_ret
    refine ⟨rfl, ?_, (o2.trans (Only.of_below (show Below w2.heap.size w2 w6 from below_of))).setCell (p := ⟨b3, 0, none⟩) (.inl rfl) _⟩
    exact blk_set (D3 w6).1 0 (.int .u64 y)
theorem hon_get {base b1 b2 b3 : Nat} {w : World} {P : HpE} {k i : Nat} {h : HdE} {x : IDE} {y : Int} (H : HpAt base w P) (ho : ObjAt P.M.ws k h x) (hst : standsB h = false) (hi : (i : Int) < h.fields) (hy : P.M.ws[k + 2 + i]? = some y) (hv : ValW P.M.ws y)
    (h1 : w.heap[b1]? = some (.cells #[spP P.gh] 37 (0, 0))) (h2 : w.heap[b2]? = some (.cells #[.int .i64 (i : Int)] 3 (0, 0))) (h3 : w.heap[b3]? = some (.cells #[.int .u64 0] 34 (0, 0))) (h3' : ¬ memS P.M b3) :
    Calls Tryz.prog 78 #[spP P.gh, .int .u64 (adW k), .func (.func 90) #[] #[.pointer (some ⟨b1, 0, none⟩), .pointer (some ⟨b2, 0, none⟩), .pointer (some ⟨b3, 0, none⟩)]] w (GetPost b3 y w) := by
  have HP : ∀ u [Later w u], Calls Tryz.prog 91 #[spP P.gh, .int .u64 (adW k)] u fun r w' => r = .returned (.tuple #[.int .i64 (16777216 + (k : Int)), .bool true]) ∧ Below u.heap.size u w' := fun u _ => pointer_any (H.later u) ho (fun e => by unfold standsB at hst; rw [decide_eq_true (.inr e)] at hst; cases hst)
  have HC : ∀ u [Later w u], Calls Tryz.prog 90 #[.int .i64 (16777216 + (k : Int)), .pointer (some ⟨b1, 0, none⟩), .pointer (some ⟨b2, 0, none⟩), .pointer (some ⟨b3, 0, none⟩)] u (GetPost b3 y u) := fun u j =>
    hGet1_any _ (H.later u) rfl ho hst hi hy hv (blk_below h1 j.below) (blk_below h2 j.below) (blk_below h3 j.below) h3'
  unfold GetPost at HC ⊢
  obtain ⟨v, hv'⟩ : ∃ y, y = adW k := ⟨_, rfl⟩
  obtain ⟨a, ha⟩ : ∃ y, y = 16777216 + (k : Int) := ⟨_, rfl⟩
  rw [← hv']
  simp only [← hv', ← ha] at HP HC
  clear hv' ha H ho hst hi hy hv h1 h2 h3 h3'
  have lww : Later w w := Later.refl
  go_enter Tryz.func78, Tryz.ntmps78
  go_upto_region 4 with (go_at_call 91; refine (HP _).mono ?_; rintro r w1 ⟨rfl, hb1⟩; have l1 := later hb1)
  go_wp2_with (go_at_call 90; refine (HC _).mono ?_; rintro r w2 ⟨rfl, hm2, ho2⟩; have o2 := (Only.of_below (s := fun j => j = b3) (show Below w.heap.size w _ from below_of)).trans ho2)
  go_ret
  exact ⟨rfl, hm2, o2⟩
set_option maxRecDepth 100000 in
set_option maxHeartbeats 4000000 in
theorem hGet_any {base : Nat} {w : World} {P : HpE} {k i : Nat} {h : HdE} {x : IDE} {y : Int} (H : HpAt base w P) (ho : ObjAt P.M.ws k h x) (hst : standsB h = false) (hi : (i : Int) < h.fields) (hy : P.M.ws[k + 2 + i]? = some y) (hv : ValW P.M.ws y) :
    Calls Tryz.prog 43 #[spP P.gh, .int .u64 (adW k), .int .i64 (i : Int)] w fun r w' => r = .returned (.tuple #[.int .u64 y, .int .i64 0]) ∧ Below w.heap.size w w' := by
  have hS := H.mem.gw
  have HC : ∀ (b1 b2 b3 : Nat) (u : World) [Later w u], w.heap.size ≤ b3 → u.heap[b1]? = some (.cells #[spP P.gh] 37 (0, 0)) → u.heap[b2]? = some (.cells #[.int .i64 (i : Int)] 3 (0, 0)) → u.heap[b3]? = some (.cells #[.int .u64 0] 34 (0, 0)) →
      Calls Tryz.prog 78 #[spP P.gh, .int .u64 (adW k), .func (.func 90) #[] #[.pointer (some ⟨b1, 0, none⟩), .pointer (some ⟨b2, 0, none⟩), .pointer (some ⟨b3, 0, none⟩)]] u (GetPost b3 y u) := fun b1 b2 b3 u _ hz h1 h2 h3 =>
    hon_get (H.later u) ho hst hi hy hv h1 h2 h3 (fun e => by have := hS _ e; omega)
  unfold GetPost at HC
  obtain ⟨v, hv'⟩ : ∃ y, y = adW k := ⟨_, rfl⟩
  rw [← hv']
  simp only [← hv'] at HC
  clear hv' H ho hst hi hy hv hS
  have lww : Later w w := Later.refl
  go_enter Tryz.func43, Tryz.ntmps43
  go_upto_region 1 with fail
  refine wp_name ?_
  intro w0 hw0
  obtain ⟨B0, B1, B2, l0⟩ := box3 hw0
  have lw0 : Later w w0 := l0 w
  have l00 : Later w0 w0 := Later.refl
  clear hw0
  have k0 := (B0 w0).1
  have k1 := (B1 w0).1
  have k2 := (B2 w0).1
  go_upto_region 2 with (go_at_call 78; refine (HC _ _ _ w0 (by omega) k0 k1 k2).mono ?_; rintro r w1 ⟨rfl, hx1, ho1⟩)
  have lw1 : Later w w1 := ⟨lw0.below.trans (ho1.below (fun j e => by omega) lw0.below.size)⟩
  have l11 : Later w1 w1 := Later.refl
  have X1 := boxed hx1
  clear k0 k1 k2 l0 HC B0 B1 B2
  go_wp2_with fail
  generalize hw9 : World.setCell _ _ _ = w9
  have B9 := boxed_set X1 hw9
  have l9 : Later w w9 := ⟨by
    have hb := lw1.below
    rw [← hw9]
    exact hb.setCell (by show w.heap.size ≤ w.heap.size + 1 + 1; omega) _⟩
  clear hw9
  have l99 : Later w9 w9 := Later.refl
  have r0 := ((B9 w9).2 0).1
  refine bodyPost_ret (v := .tuple #[.int .u64 y, .int .i64 0]) (by simp [results, Tryz.results43, go_sem, r0]) rfl ⟨rfl, l9.below⟩
end Go.Proofs.YtjegncmkebbdfaaGreatDoor

namespace Go.Proofs.YtjegncmkebbdfaaGreatDoor
open Go.RowKit
attribute [local simp] heap_drew
attribute [local go_sem ↓] run_eql_id run_neq_id
set_option maxRecDepth 100000 in
set_option maxHeartbeats 4000000 in
theorem shapeValue_ad {base : Nat} {w : World} {P : HpE} {k : Nat} {h : HdE} {x : IDE} (H : HpAt base w P) (ho : ObjAt P.M.ws k h x) (hk : h.kind ≠ 4) : Calls Tryz.prog 15 #[spP P.gh, .int .u64 (adW k)] w fun r w' => r = .returned ((⟨2, 0, x.machine, x.serial⟩ : ValE).v) ∧ Below w.heap.size w w' := by
  have hk5 : k ≤ 5000 := by have := ho.le; have := H.mem.len; omega
  have HI : ∀ u : World, Calls Tryz.prog 39 #[.int .u64 (adW k)] u fun r w' => r = .returned (.tuple #[.int .i64 0, .bool false]) ∧ Below u.heap.size u w' := fun u => by
    have := wordInt_any (adW k) u (adW_ok hk5).1
    have hn : ¬ adW k % 4 = 1 := by unfold adW; omega
    rw [if_neg hn, decide_eq_false hn] at this
    exact this
  have HD : ∀ u [Later w u], Calls Tryz.prog 40 #[spP P.gh, .int .u64 (adW k)] u fun r w' => r = .returned (.tuple #[x.v, .int .i64 0]) ∧ Below u.heap.size u w' := fun u _ => hID_any (H.later u) ho hk
  obtain ⟨v, hv⟩ : ∃ y, y = adW k := ⟨_, rfl⟩
  rw [← hv]
  simp only [← hv] at HI HD
  clear hv H ho hk hk5
  have lww : Later w w := Later.refl
  go_enter Tryz.func15, Tryz.ntmps15
  go_upto_region 1 with fail
  refine wp_name ?_
  intro w0 hw0
  obtain ⟨B0, l0⟩ := box1 hw0
  have lw0 : Later w w0 := l0 w
  have l00 : Later w0 w0 := Later.refl
  clear hw0
  go_upto_region 4 with (go_at_call 39; refine (HI _).mono ?_; rintro r w1 ⟨rfl, hb1⟩; have l1 := later hb1)
  have l01 : Later w0 w1 := ⟨below_of⟩
  have lw1 : Later w w1 := ⟨below_of⟩
  have l11 : Later w1 w1 := Later.refl
  clear l1
  go_upto_region 5 with (go_at_call 40; refine (HD _).mono ?_; rintro r w2 ⟨rfl, hb2⟩; have l2 := later hb2)
  refine wp_name ?_
  intro w3 hw3
  obtain ⟨B7, l3⟩ := box1 hw3
  have l23 : Below w2.heap.size w2 w3 := by rw [← hw3]; exact (by repeat (first | with_reducible exact Below.refl _ _ | (with_reducible refine Below.drew ?_) | (with_reducible refine below_drewN ?_ _) | (with_reducible refine Below.alloc ?_ ?_ _; rotate_left; (first | omega | (simp <;> omega))) | (with_reducible refine Below.setCell ?_ ?_ _; rotate_left; (first | omega | (simp <;> omega)))))
  clear hw3
  have l12 : Below w1.heap.size w1 w2 := below_of
  have l03 : Later w0 w3 := ⟨l01.below.trans ((l12.trans (l23.mono l12.size)).mono l01.below.size)⟩
  have lw3 : Later w w3 := lw0.trans l03
  have l33 : Later w3 w3 := Later.refl
  clear l3 l2 l12 l23
  go_wp2_with fail
  generalize hw9 : World.setCell (World.setCell (World.setCell (World.setCell _ _ _) _ _) _ _) _ _ = w9
  have B9 := boxed_set4 B0 hw9
  have l9 := later_put4 (W := w) (Nat.le_refl _) (Nat.le_refl _) (Nat.le_refl _) (Nat.le_refl _) hw9
  clear hw9
  have l99 : Later w9 w9 := Later.refl
  have r0 := ((B9 w9).2 0).1
  have r1 := ((B9 w9).2 1).1
  have r2 := ((B9 w9).2 2).1
  have r3 := ((B9 w9).2 3).1
  refine bodyPost_ret (v := .agg #[.int .i64 2, .int .i64 0, .int .i64 x.machine, .int .i64 x.serial]) (by simp [results, Tryz.results15, go_sem, r0, r1, r2, r3]) rfl ⟨rfl, below_of⟩
end Go.Proofs.YtjegncmkebbdfaaGreatDoor
