/-
  Small texts of this seat, put into one. Conditions stand in each theorem.
-/
import Derived.Test.YtjegncmkebbdfaaGreatDoorHMem5
set_option linter.unusedSimpArgs false
set_option linter.unusedVariables false
namespace Go.Proofs.YtjegncmkebbdfaaGreatDoor
open Go.RowKit
attribute [local simp] heap_drew
attribute [local go_sem ↓] run_eql_id run_neq_id
/-! ### The heap -/
structure HpE where
  gh : Nat
  gC : Nat
  gL : Nat
  gH : Nat
  M : MemE
structure HpAt (base : Nat) (w : World) (P : HpE) : Prop where
  hd : w.heap[P.gh]? = some (.cells #[.int .i64 5000, .pointer (some ⟨P.M.gO, 0, none⟩), .pointer (some ⟨P.M.gY, 0, none⟩), .pointer (some ⟨P.gC, 0, none⟩), .pointer (some ⟨P.gL, 0, none⟩), .pointer (some ⟨P.gH, 0, none⟩)] 116 (0, 0))
  log : w.heap[P.gL]? = some (.cells #[.bool false, .int .i64 0, .slice none 0 0] 170 (0, 0))
  mem : MemAt base w P.M
theorem HpAt.below {base : Nat} {w w' : World} {P : HpE} (h : HpAt base w P) (hb : Below w.heap.size w w') : HpAt base w' P := ⟨blk_below h.hd hb, blk_below h.log hb, h.mem.below hb⟩
theorem HpAt.later {base : Nat} {w : World} {P : HpE} (h : HpAt base w P) : ∀ u [Later w u], HpAt base u P := fun _ i => h.below i.below
/-- The word of an address. -/
def adW (k : Nat) : Int := (16777216 + (k : Int)) * 4 + 2
theorem adW_ok {k : Nat} (h : k ≤ 5000) : WordOk (adW k) ∧ kindW (adW k) = 2 ∧ adW k / 4 = 16777216 + (k : Int) := by
  refine ⟨by unfold WordOk adW; omega, ?_, by unfold adW; omega⟩
  unfold kindW adW
  rw [if_neg (by omega), if_neg (by omega), if_pos (by omega)]
/-- A word that is a value of the heap. -/
def ValW (ws : List Int) (v : Int) : Prop := (WordOk v ∧ (v = 0 ∨ v % 4 = 1)) ∨ ∃ k h x, v = adW k ∧ ObjAt ws k h x ∧ h.kind ≠ 4
set_option maxRecDepth 100000 in
set_option maxHeartbeats 8000000 in
theorem pointer_any {base : Nat} {w : World} {P : HpE} {k : Nat} {h : HdE} {x : IDE} (H : HpAt base w P) (ho : ObjAt P.M.ws k h x) (hkind : h.kind ≠ 4) : Calls Tryz.prog 91 #[spP P.gh, .int .u64 (adW k)] w fun r w' => r = .returned (.tuple #[.int .i64 (16777216 + (k : Int)), .bool true]) ∧ Below w.heap.size w w' := by
  have hk5 : k ≤ 5000 := by have := ho.le; have := H.mem.len; omega
  obtain ⟨h1, h2, h3⟩ := adW_ok hk5
  have HA : ∀ u : World, Calls Tryz.prog 141 #[.int .u64 (adW k)] u fun r w' => r = .returned (.tuple #[.int .i64 (16777216 + (k : Int)), .bool true]) ∧ Below u.heap.size u w' := fun u => by
    have := address_any (adW k) u h1
    rw [if_pos h2, h3, decide_eq_true h2] at this
    exact this
  have HR : ∀ u [Later w u], Calls Tryz.prog 142 #[P.M.v, .int .i64 (16777216 + (k : Int))] u fun r w' => r = .returned (.tuple #[.int .i64 (16777216 + (k : Int)), .int .i64 0]) ∧ Below u.heap.size u w' := fun u i => mresolve_any _ (H.later u).mem rfl ho hkind
  have B := boxed H.hd
  obtain ⟨v, hv⟩ : ∃ y, y = adW k := ⟨_, rfl⟩
  obtain ⟨a, ha⟩ : ∃ y, y = 16777216 + (k : Int) := ⟨_, rfl⟩
  rw [← hv, ← ha]
  simp only [← hv, ← ha] at HA HR
  clear hv ha h1 h2 h3 hk5 H ho hkind
  have lww : Later w w := Later.refl
  go_enter Tryz.func91, Tryz.ntmps91
  go_upto_region 4 with (go_at_call 141; refine (HA _).mono ?_; rintro r w1 ⟨rfl, hb1⟩; have l1 := later hb1)
  go_wp2_with (go_at_call 142; refine (HR _).mono ?_; rintro r w2 ⟨rfl, hb2⟩; have l2 := later hb2)
  exact bodyPost_ret (results_tmp2 rfl _ _ _) rfl ⟨rfl, below_of⟩
set_option maxRecDepth 100000 in
set_option maxHeartbeats 8000000 in
theorem pointer_no {w : World} {gh : Nat} (v : Int) (hv : WordOk v) (hk : kindW v ≠ 2) : Calls Tryz.prog 91 #[spP gh, .int .u64 v] w fun r w' => r = .returned (.tuple #[.int .i64 0, .bool false]) ∧ Below w.heap.size w w' := by
  have HA : ∀ u : World, Calls Tryz.prog 141 #[.int .u64 v] u fun r w' => r = .returned (.tuple #[.int .i64 0, .bool false]) ∧ Below u.heap.size u w' := fun u => by
    have := address_any v u hv
    rw [if_neg hk, decide_eq_false hk] at this
    exact this
  clear hv hk
  have lww : Later w w := Later.refl
  go_enter Tryz.func91, Tryz.ntmps91
  go_wp2_with (go_at_call 141; refine (HA _).mono ?_; rintro r w1 ⟨rfl, hb1⟩; have l1 := later hb1)
  exact bodyPost_ret (results_tmp2 rfl _ _ _) rfl ⟨rfl, below_of⟩
set_option maxRecDepth 100000 in
set_option maxHeartbeats 8000000 in
theorem value_any {base : Nat} {w : World} {P : HpE} (v : Int) (H : HpAt base w P) (hv : ValW P.M.ws v) : Calls Tryz.prog 68 #[spP P.gh, .int .u64 v] w fun r w' => r = .returned (.bool true) ∧ Below w.heap.size w w' := by
  have lww : Later w w := Later.refl
  rcases hv with ⟨hv, h0⟩ | ⟨k, h, x, rfl, ho, hkind⟩
  · have HK := fun u : World => kind_any v u hv
    have hk : kindW v = 0 ∨ kindW v = 1 := by
      unfold kindW
      rcases h0 with h0 | h0
      · rw [if_pos h0]; exact .inl rfl
      · by_cases h1 : v = 0
        · rw [if_pos h1]; exact .inl rfl
        · rw [if_neg h1, if_pos h0]; exact .inr rfl
    rcases hk with hk | hk
    · simp only [hk] at HK
      clear hv h0 hk H
      go_enter Tryz.func68, Tryz.ntmps68
      go_wp2_with (go_at_call 118; refine (HK _).mono ?_; rintro r w1 ⟨rfl, hb1⟩; have l1 := later hb1)
      go_ret
      exact ⟨rfl, below_of⟩
    · simp only [hk] at HK
      clear hv h0 hk H
      go_enter Tryz.func68, Tryz.ntmps68
      go_wp2_with (go_at_call 118; refine (HK _).mono ?_; rintro r w1 ⟨rfl, hb1⟩; have l1 := later hb1)
      go_ret
      exact ⟨rfl, below_of⟩
  · have hk5 : k ≤ 5000 := by have := ho.le; have := H.mem.len; omega
    obtain ⟨h1, h2, -⟩ := adW_ok hk5
    have HK := fun u : World => kind_any (adW k) u h1
    simp only [h2] at HK
    have HP : ∀ u [Later w u], Calls Tryz.prog 91 #[spP P.gh, .int .u64 (adW k)] u fun r w' => r = .returned (.tuple #[.int .i64 (16777216 + (k : Int)), .bool true]) ∧ Below u.heap.size u w' := fun u i => pointer_any (H.later u) ho hkind
    obtain ⟨v, hv⟩ : ∃ y, y = adW k := ⟨_, rfl⟩
    rw [← hv]
    simp only [← hv] at HK HP
    clear hv h1 h2 hk5 H ho hkind
    go_enter Tryz.func68, Tryz.ntmps68
    go_upto_region 2 with (go_at_call 118; refine (HK _).mono ?_; rintro r w1 ⟨rfl, hb1⟩; have l1 := later hb1)
    go_wp2_with (go_at_call 91; refine (HP _).mono ?_; rintro r w1 ⟨rfl, hb2⟩; have l2 := later hb2)
    go_ret
    exact ⟨rfl, below_of⟩
set_option maxHeartbeats 2000000 in
theorem at_any (a : Int) (w : World) (h0 : 0 ≤ a) (h1 : a ≤ 4294967295) : Calls Tryz.prog 74 #[.int .i64 a] w fun r w' => r = .returned (.int .u64 (a * 4 + 2)) ∧ Below w.heap.size w w' := by
  have HF := fun u : World => fromAddress_any a u h0 h1
  clear h0 h1
  go_enter Tryz.func74, Tryz.ntmps74
  go_wp2_with (go_at_call 126; refine (HF _).mono ?_; rintro r w1 ⟨rfl, hb1⟩; have l1 := later hb1)
  go_ret
  exact ⟨rfl, below_of⟩
set_option maxHeartbeats 2000000 in
theorem logOpen_any {base : Nat} {w : World} {P : HpE} (H : HpAt base w P) : Calls Tryz.prog 81 #[spP P.gL] w fun r w' => r = .returned (.bool false) ∧ Below w.heap.size w w' := by
  have B := boxed H.log
  clear H
  have lww : Later w w := Later.refl
  go_enter Tryz.func81, Tryz.ntmps81
  go_wp2_with fail
  go_ret
  exact ⟨rfl, below_of⟩
end Go.Proofs.YtjegncmkebbdfaaGreatDoor

namespace Go.Proofs.YtjegncmkebbdfaaGreatDoor
open Go.RowKit
attribute [local simp] heap_drew
attribute [local go_sem ↓] run_eql_id run_neq_id
theorem MemAt.notS {base : Nat} {w : World} {M : MemE} (H : MemAt base w M) {j : Nat} {cs : Array Value} {t : TypeId} {fr : Nat × Nat} (hj : w.heap[j]? = some (.cells cs t fr)) (ht : 34 ≠ t) : ¬ memS M j := fun e => by
  have := H.words.own
  unfold memS at e
  exact own_off this hj ht (by rw [e]; rfl)
theorem HpAt.only {base : Nat} {w w' : World} {P : HpE} {M' : MemE} (H : HpAt base w P) (H' : MemAt base w' M') (O : Only (memS P.M) w w') (hO : M'.gO = P.M.gO) (hY : M'.gY = P.M.gY) : HpAt base w' { P with M := M' } :=
  ⟨by show w'.heap[P.gh]? = _; rw [hO, hY]; exact O.boxed H.hd (H.mem.notS H.hd (by decide)), O.boxed H.log (H.mem.notS H.log (by decide)), H'⟩
/-- What an operation on the words leaves: the heap with other words. -/
structure HSet (base : Nat) (w : World) (P : HpE) (ws' : List Int) (r : Ending) (w' : World) : Prop where
  ret : r = .returned (.int .i64 0)
  mem : MemAt base w' { P.M with ws := ws' }
  only : Only (memS P.M) w w'
theorem HSet.hp {base : Nat} {w w' : World} {P : HpE} {ws' : List Int} {r : Ending} (h : HSet base w P ws' r w') (H : HpAt base w P) : HpAt base w' { P with M := { P.M with ws := ws' } } := H.only h.mem h.only rfl rfl
set_option maxRecDepth 100000 in
set_option maxHeartbeats 8000000 in
theorem hstub1_any {base b1 b2 b3 : Nat} {w : World} {P : HpE} (a : Int) {k : Nat} {h : HdE} {x : IDE} (H : HpAt base w P) (ha : a = 16777216 + k) (ho : ObjAt P.M.ws k h x) (hst : standsB h = false) (hf0 : h.fields ≤ 2)
    (h1 : w.heap[b1]? = some (.cells #[.pointer (some ⟨P.gh, 0, none⟩)] 37 (0, 0))) (h2 : w.heap[b2]? = some (.cells #[.int .i64 2] 3 (0, 0))) (h3 : w.heap[b3]? = some (.cells #[.int .u64 7] 34 (0, 0))) (h3' : ¬ memS P.M b3) :
    Calls Tryz.prog 76 #[.int .i64 a, .pointer (some ⟨b1, 0, none⟩), .pointer (some ⟨b2, 0, none⟩), .pointer (some ⟨b3, 0, none⟩)] w (HSet base w P (stubW P.M.ws k h)) := by
  have B1 := boxed h1
  have B2 := boxed h2
  have B3 := boxed h3
  have BH := boxed H.hd
  have n1 := H.mem.notS h1 (by decide)
  have n2 := H.mem.notS h2 (by decide)
  have nh := H.mem.notS H.hd (by decide)
  have HT : ∀ u [Later w u], Calls Tryz.prog 77 #[P.M.v, .int .i64 a, .int .i64 2, .int .u64 7] u fun r w' => r = .returned (.int .i64 0) ∧ MemAt base w' { P.M with ws := stubW P.M.ws k h } ∧ Only (memS P.M) u w' := fun u i => mtoStub_any a (H.later u).mem ha ho hst hf0
  clear h1 h2 h3 H ha ho hst hf0
  have lww : Later w w := Later.refl
  have cx : ∀ u [Later w u], u.cell? ⟨b1, 0, none⟩ = some (.pointer (some ⟨P.gh, 0, none⟩)) ∧ u.cell? ⟨P.gh, 1, none⟩ = some (.pointer (some ⟨P.M.gO, 0, none⟩)) ∧ u.cell? ⟨P.gh, 2, none⟩ = some (.pointer (some ⟨P.M.gY, 0, none⟩)) ∧ u.cell? ⟨b2, 0, none⟩ = some (.int .i64 2) ∧ u.cell? ⟨b3, 0, none⟩ = some (.int .u64 7) := fun u i => ⟨((B1 u).2 0).1, ((BH u).2 1).1, ((BH u).2 2).1, ((B2 u).2 0).1, ((B3 u).2 0).1⟩
  obtain ⟨c1, c2, c3, c4, c5⟩ := cx w
  go_enter Tryz.func76, Tryz.ntmps76
  go_upto_region 1 with fail
  go_region_held3 (fun w' => w'.cell? ⟨b1, 0, none⟩ = some (.pointer (some ⟨P.gh, 0, none⟩)) ∧ w'.cell? ⟨P.gh, 1, none⟩ = some (.pointer (some ⟨P.M.gO, 0, none⟩)) ∧ w'.cell? ⟨P.gh, 2, none⟩ = some (.pointer (some ⟨P.M.gY, 0, none⟩)) ∧ w'.cell? ⟨b2, 0, none⟩ = some (.int .i64 2) ∧ w'.cell? ⟨b3, 0, none⟩ = some (.int .u64 7)) (first | exact cx _ | exact cy)
    ((go_at_call 77
      refine (HT _).mono ?_
      rintro r w3 ⟨rfl, hm3, ho3⟩
      have o3 := (Only.of_below (s := memS P.M) (show Below w.heap.size w _ from below_of)).trans ho3
      have l33 : Later w3 w3 := Later.refl
      have D1 := boxed (o3.boxed (B1 w).1 n1)
      have D2 := boxed (o3.boxed (B2 w).1 n2)
      have D3 := boxed (o3.boxed (B3 w).1 h3')
      have DH := boxed (o3.boxed (BH w).1 nh)
      have cy : w3.cell? ⟨b1, 0, none⟩ = some (.pointer (some ⟨P.gh, 0, none⟩)) ∧ w3.cell? ⟨P.gh, 1, none⟩ = some (.pointer (some ⟨P.M.gO, 0, none⟩)) ∧ w3.cell? ⟨P.gh, 2, none⟩ = some (.pointer (some ⟨P.M.gY, 0, none⟩)) ∧ w3.cell? ⟨b2, 0, none⟩ = some (.int .i64 2) ∧ w3.cell? ⟨b3, 0, none⟩ = some (.int .u64 7) := ⟨((D1 w3).2 0).1, ((DH w3).2 1).1, ((DH w3).2 2).1, ((D2 w3).2 0).1, ((D3 w3).2 0).1⟩))
  go_wp2_with fail
  go_ret
  exact ⟨rfl, hm3, o3⟩
/-- `on` with the closure of ToStub. -/
theorem hon76_any {base b1 b2 b3 : Nat} {w : World} {P : HpE} {k : Nat} {h : HdE} {x : IDE} (H : HpAt base w P) (ho : ObjAt P.M.ws k h x) (hst : standsB h = false) (hf0 : h.fields ≤ 2)
    (h1 : w.heap[b1]? = some (.cells #[.pointer (some ⟨P.gh, 0, none⟩)] 37 (0, 0))) (h2 : w.heap[b2]? = some (.cells #[.int .i64 2] 3 (0, 0))) (h3 : w.heap[b3]? = some (.cells #[.int .u64 7] 34 (0, 0))) (h3' : ¬ memS P.M b3) :
    Calls Tryz.prog 78 #[spP P.gh, .int .u64 (adW k), .func (.func 76) #[] #[.pointer (some ⟨b1, 0, none⟩), .pointer (some ⟨b2, 0, none⟩), .pointer (some ⟨b3, 0, none⟩)]] w (HSet base w P (stubW P.M.ws k h)) := by
  have HP : ∀ u [Later w u], Calls Tryz.prog 91 #[spP P.gh, .int .u64 (adW k)] u fun r w' => r = .returned (.tuple #[.int .i64 (16777216 + (k : Int)), .bool true]) ∧ Below u.heap.size u w' := fun u i => pointer_any (H.later u) ho (fun e => by unfold standsB at hst; rw [decide_eq_true (.inr e)] at hst; cases hst)
  have HC : ∀ u [Later w u], Calls Tryz.prog 76 #[.int .i64 (16777216 + (k : Int)), .pointer (some ⟨b1, 0, none⟩), .pointer (some ⟨b2, 0, none⟩), .pointer (some ⟨b3, 0, none⟩)] u (HSet base u P (stubW P.M.ws k h)) := fun u i =>
    hstub1_any _ (H.later u) rfl ho hst hf0 (blk_below h1 i.below) (blk_below h2 i.below) (blk_below h3 i.below) h3'
  obtain ⟨v, hv⟩ : ∃ y, y = adW k := ⟨_, rfl⟩
  obtain ⟨a, ha⟩ : ∃ y, y = 16777216 + (k : Int) := ⟨_, rfl⟩
  rw [← hv]
  simp only [← hv, ← ha] at HP HC
  clear hv ha H ho hst hf0 h1 h2 h3 h3'
  have lww : Later w w := Later.refl
  go_enter Tryz.func78, Tryz.ntmps78
  go_upto_region 4 with (go_at_call 91; refine (HP _).mono ?_; rintro r w1 ⟨rfl, hb1⟩; have l1 := later hb1)
  go_wp2_with (go_at_call 76; refine (HC _).mono ?_; rintro r w2 ⟨rfl, hm2, ho2⟩; have o2 := (Only.of_below (s := memS P.M) (show Below w.heap.size w _ from below_of)).trans ho2)
  go_ret
  exact ⟨rfl, hm2, o2⟩
theorem hstill76_any {base b1 b2 b3 : Nat} {w : World} {P : HpE} {k : Nat} {h : HdE} {x : IDE} (H : HpAt base w P) (ho : ObjAt P.M.ws k h x) (hst : standsB h = false) (hf0 : h.fields ≤ 2)
    (h1 : w.heap[b1]? = some (.cells #[.pointer (some ⟨P.gh, 0, none⟩)] 37 (0, 0))) (h2 : w.heap[b2]? = some (.cells #[.int .i64 2] 3 (0, 0))) (h3 : w.heap[b3]? = some (.cells #[.int .u64 7] 34 (0, 0))) (h3' : ¬ memS P.M b3) :
    Calls Tryz.prog 75 #[spP P.gh, .int .u64 (adW k), .func (.func 76) #[] #[.pointer (some ⟨b1, 0, none⟩), .pointer (some ⟨b2, 0, none⟩), .pointer (some ⟨b3, 0, none⟩)]] w (HSet base w P (stubW P.M.ws k h)) := by
  have HO : ∀ u [Later w u], Calls Tryz.prog 81 #[spP P.gL] u fun r w' => r = .returned (.bool false) ∧ Below u.heap.size u w' := fun u i => logOpen_any (H.later u)
  have HC : ∀ u [Later w u], Calls Tryz.prog 78 #[spP P.gh, .int .u64 (adW k), .func (.func 76) #[] #[.pointer (some ⟨b1, 0, none⟩), .pointer (some ⟨b2, 0, none⟩), .pointer (some ⟨b3, 0, none⟩)]] u (HSet base u P (stubW P.M.ws k h)) := fun u i =>
    hon76_any (H.later u) ho hst hf0 (blk_below h1 i.below) (blk_below h2 i.below) (blk_below h3 i.below) h3'
  have B := boxed H.hd
  obtain ⟨v, hv⟩ : ∃ y, y = adW k := ⟨_, rfl⟩
  rw [← hv]
  simp only [← hv] at HC
  clear hv H ho hst hf0 h1 h2 h3 h3'
  have lww : Later w w := Later.refl
  go_enter Tryz.func75, Tryz.ntmps75
  go_upto_region 3 with (go_at_call 81; refine (HO _).mono ?_; rintro r w1 ⟨rfl, hb1⟩; have l1 := later hb1)
  go_wp2_with (go_at_call 78; refine (HC _).mono ?_; rintro r w2 ⟨rfl, hm2, ho2⟩; have o2 := (Only.of_below (s := memS P.M) (show Below w.heap.size w _ from below_of)).trans ho2)
  go_ret
  exact ⟨rfl, hm2, o2⟩
set_option maxRecDepth 100000 in
set_option maxHeartbeats 8000000 in
theorem htoStub_any {base : Nat} {w : World} {P : HpE} {k : Nat} {h : HdE} {x : IDE} (H : HpAt base w P) (ho : ObjAt P.M.ws k h x) (hst : standsB h = false) (hf0 : h.fields ≤ 2) :
    Calls Tryz.prog 34 #[spP P.gh, .int .u64 (adW k), .int .i64 2, .int .u64 7] w (HSet base w P (stubW P.M.ws k h)) := by
  have hS := H.mem.gw
  have HC : ∀ (b1 b2 b3 : Nat) (u : World) [Later w u], w.heap.size ≤ b3 → u.heap[b1]? = some (.cells #[.pointer (some ⟨P.gh, 0, none⟩)] 37 (0, 0)) → u.heap[b2]? = some (.cells #[.int .i64 2] 3 (0, 0)) → u.heap[b3]? = some (.cells #[.int .u64 7] 34 (0, 0)) →
      Calls Tryz.prog 75 #[spP P.gh, .int .u64 (adW k), .func (.func 76) #[] #[.pointer (some ⟨b1, 0, none⟩), .pointer (some ⟨b2, 0, none⟩), .pointer (some ⟨b3, 0, none⟩)]] u (HSet base u P (stubW P.M.ws k h)) := fun b1 b2 b3 u i hz h1 h2 h3 =>
    hstill76_any (H.later u) ho hst hf0 h1 h2 h3 (fun e => by have := hS _ e; omega)
  obtain ⟨v, hv⟩ : ∃ y, y = adW k := ⟨_, rfl⟩
  rw [← hv]
  simp only [← hv] at HC
  clear hv H ho hst hf0 hS
  have lww : Later w w := Later.refl
  go_enter Tryz.func34, Tryz.ntmps34
  go_upto_region 1 with fail
  refine wp_name ?_
  intro w0 hw0
  obtain ⟨B0, B1, B2, l0⟩ := box3 hw0
  have lw0 : Later w w0 := l0 w
  have l00 : Later w0 w0 := Later.refl
  clear hw0
  have k0 := (B0 w0).1
  have k1 := (B1 w0).1
  have k2 := (B2 w0).1
  go_wp2_with (go_at_call 75; refine (HC _ _ _ w0 (by omega) k0 k1 k2).mono ?_; rintro r w2 ⟨rfl, hm2, ho2⟩; have o2 := (Only.of_below (s := memS P.M) (show Below w.heap.size w w0 from below_of)).trans ho2)
  go_ret
  exact ⟨rfl, hm2, o2⟩
end Go.Proofs.YtjegncmkebbdfaaGreatDoor

namespace Go.Proofs.YtjegncmkebbdfaaGreatDoor
open Go.RowKit
attribute [local simp] heap_drew
attribute [local go_sem ↓] run_eql_id run_neq_id
set_option maxRecDepth 100000 in
set_option maxHeartbeats 8000000 in
theorem bstore_any {base gC : Nat} {w : World} {M : MemE} (a : Int) {k i : Nat} {h : HdE} {x : IDE} (y : Int) (H : MemAt base w M) (ha : a = 16777216 + k) (ho : ObjAt M.ws k h x) (hst : standsB h = false) (hi : (i : Int) < h.fields) : Calls Tryz.prog 83 #[M.v, .pointer (some ⟨gC, 0, none⟩), .int .i64 a, .int .i64 (i : Int), .int .u64 y] w fun r w' => r = .returned (.int .i64 0) ∧ MemAt base w' { M with ws := M.ws.set (k + 2 + i) y } ∧ Only (memS M) w w' := by
  have hlt : k + 2 + i < M.ws.length := by
    have := ho.le; unfold HdE.sz at this; omega
  have hS := H.gw
  have HF : ∀ u [Later w u], Calls Tryz.prog 73 #[M.v, .int .i64 a, .int .i64 (i : Int), .int .u64 y] u fun r w' => r = .returned (.int .i64 0) ∧ MemAt base w' { M with ws := M.ws.set (k + 2 + i) y } ∧ Only (memS M) u w' := fun u _ => by
    refine (msetField_any a y (H.later u) ha ho hst hi).mono ?_
    intro r w' hs
    exact ⟨hs.ret, hs.mem (H.later u) hlt, hs.only⟩
  have HC : ∀ u, MemAt base u { M with ws := M.ws.set (k + 2 + i) y } → Calls Tryz.prog 133 #[spP M.gO, .int .i64 a] u fun r w' => r = .returned (.bool false) ∧ Below u.heap.size u w' := fun u hu => by
    have := contains_any (n := 0) a hu.old ⟨by decide, by decide, by decide⟩
    rw [decide_eq_false (by omega)] at this
    exact this
  clear hlt ha ho H hst hi
  have lww : Later w w := Later.refl
  go_enter Tryz.func83, Tryz.ntmps83
  go_upto_region 1 with fail
  refine wp_name ?_
  intro w0 hw0
  obtain ⟨B0, l0⟩ := box1 hw0
  have lw0 : Later w w0 := l0 w
  have l00 : Later w0 w0 := Later.refl
  clear hw0
  go_upto_region 2 with (go_at_call 73; refine (HF _).mono ?_; rintro r w1 ⟨rfl, hm1, ho1⟩; have o1 := (Only.of_below (s := memS M) lw0.below).trans ho1)
  have D0 := boxed (ho1.boxed (B0 w0).1 (fun e => by have := hS _ e; omega))
  have l11 : Later w1 w1 := Later.refl
  clear l0 lw0
  go_wp2_with (go_at_call 133; refine (HC _ hm1).mono ?_; rintro r w2 ⟨rfl, hb2⟩; have l2 := later hb2)
  go_ret
  exact ⟨rfl, hm1.below hb2, o1.trans (Only.of_below hb2)⟩
set_option maxRecDepth 100000 in
set_option maxHeartbeats 8000000 in
theorem hset1_any {base b1 b2 b3 : Nat} {w : World} {P : HpE} (a : Int) {k i : Nat} {h : HdE} {x : IDE} {y : Int} (H : HpAt base w P) (ha : a = 16777216 + k) (ho : ObjAt P.M.ws k h x) (hst : standsB h = false) (hi : (i : Int) < h.fields) (hy : ValW P.M.ws y)
    (h1 : w.heap[b1]? = some (.cells #[.pointer (some ⟨P.gh, 0, none⟩)] 37 (0, 0))) (h2 : w.heap[b2]? = some (.cells #[.int .i64 (i : Int)] 3 (0, 0))) (h3 : w.heap[b3]? = some (.cells #[.int .u64 y] 34 (0, 0))) (h3' : ¬ memS P.M b3) :
    Calls Tryz.prog 79 #[.int .i64 a, .pointer (some ⟨b1, 0, none⟩), .pointer (some ⟨b2, 0, none⟩), .pointer (some ⟨b3, 0, none⟩)] w (HSet base w P (P.M.ws.set (k + 2 + i) y)) := by
  have B1 := boxed h1
  have B2 := boxed h2
  have B3 := boxed h3
  have BH := boxed H.hd
  have n1 := H.mem.notS h1 (by decide)
  have n2 := H.mem.notS h2 (by decide)
  have nh := H.mem.notS H.hd (by decide)
  have hlt : k + 2 + i < P.M.ws.length := by
    have := ho.le; unfold HdE.sz at this; omega
  have HFd : ∀ u [Later w u], Calls Tryz.prog 80 #[P.M.v, .int .i64 a, .int .i64 (i : Int)] u fun r w' => r = .returned (.tuple #[.int .u64 P.M.ws[k + 2 + i], .int .i64 0]) ∧ Below u.heap.size u w' := fun u _ => mField_any a (H.later u).mem ha ho hst hi (List.getElem?_eq_getElem hlt)
  obtain ⟨y0, hy0⟩ : ∃ z, z = P.M.ws[k + 2 + i] := ⟨_, rfl⟩
  rw [← hy0] at HFd
  have HV : ∀ u [Later w u], Calls Tryz.prog 68 #[spP P.gh, .int .u64 y] u fun r w' => r = .returned (.bool true) ∧ Below u.heap.size u w' := fun u _ => value_any y (H.later u) hy
  have HO : ∀ u [Later w u], Calls Tryz.prog 81 #[spP P.gL] u fun r w' => r = .returned (.bool false) ∧ Below u.heap.size u w' := fun u _ => logOpen_any (H.later u)
  have HT : ∀ u [Later w u], Calls Tryz.prog 83 #[P.M.v, .pointer (some ⟨P.gC, 0, none⟩), .int .i64 a, .int .i64 (i : Int), .int .u64 y] u fun r w' => r = .returned (.int .i64 0) ∧ MemAt base w' { P.M with ws := P.M.ws.set (k + 2 + i) y } ∧ Only (memS P.M) u w' := fun u _ => bstore_any a y (H.later u).mem ha ho hst hi
  clear h1 h2 h3 H ha ho hst hi hy hlt hy0
  have lww : Later w w := Later.refl
  go_enter Tryz.func79, Tryz.ntmps79
  go_upto_region 1 with fail
  (refine wp_region_after (by kernel_rfl) (by kernel_rfl) ?_
   repeat (any_goals (first | go_big_quiet_skip | (go_big_quiet_want; go_big_quiet_op; first | go_big_quiet_on | go_big_quiet_call ((go_at_call 80; exact Calls.after (HFd _)))) | quiet_step ((go_at_call 80; exact Calls.after (HFd _))) | (refine wpQuiet_step (fun K hK => ?_); go_simp; split <;> (refine hK _ ?_; clear hK K))))
   all_goals (refine wpQuiet_nil ?_; intro _ hw'; obtain ⟨u', hw''⟩ := hw'; subst hw''; obtain ⟨wd, hbd⟩ := u'; simp only [After.val_mk]))
  have ld := later hbd
  have lwd : Later w wd := ⟨hbd⟩
  have ldd : Later wd wd := Later.refl
  go_upto_region 6 with (go_at_call 68; refine (HV _).mono ?_; rintro r w1 ⟨rfl, hb1⟩; have l1 := later hb1)
  have lw1 : Later w w1 := ⟨below_of⟩
  go_upto_region 8 with (go_at_call 81; refine (HO _).mono ?_; rintro r w2 ⟨rfl, hb2⟩; have l2 := later hb2)
  have lw2 : Later w w2 := ⟨below_of⟩
  have l22 : Later w2 w2 := Later.refl
  have cx : ∀ u [Later w u], u.cell? ⟨b1, 0, none⟩ = some (.pointer (some ⟨P.gh, 0, none⟩)) ∧ u.cell? ⟨P.gh, 1, none⟩ = some (.pointer (some ⟨P.M.gO, 0, none⟩)) ∧ u.cell? ⟨P.gh, 2, none⟩ = some (.pointer (some ⟨P.M.gY, 0, none⟩)) ∧ u.cell? ⟨P.gh, 3, none⟩ = some (.pointer (some ⟨P.gC, 0, none⟩)) ∧ u.cell? ⟨b2, 0, none⟩ = some (.int .i64 (i : Int)) ∧ u.cell? ⟨b3, 0, none⟩ = some (.int .u64 y) := fun u i => ⟨((B1 u).2 0).1, ((BH u).2 1).1, ((BH u).2 2).1, ((BH u).2 3).1, ((B2 u).2 0).1, ((B3 u).2 0).1⟩
  obtain ⟨c1, c2, c3, c4, c5, c6⟩ := cx w2
  go_region_held3 (fun w' => w'.cell? ⟨b1, 0, none⟩ = some (.pointer (some ⟨P.gh, 0, none⟩)) ∧ w'.cell? ⟨P.gh, 1, none⟩ = some (.pointer (some ⟨P.M.gO, 0, none⟩)) ∧ w'.cell? ⟨P.gh, 2, none⟩ = some (.pointer (some ⟨P.M.gY, 0, none⟩)) ∧ w'.cell? ⟨P.gh, 3, none⟩ = some (.pointer (some ⟨P.gC, 0, none⟩)) ∧ w'.cell? ⟨b2, 0, none⟩ = some (.int .i64 (i : Int)) ∧ w'.cell? ⟨b3, 0, none⟩ = some (.int .u64 y)) (first | exact cx _ | exact cy)
    ((go_at_call 83
      refine (HT _).mono ?_
      rintro r w3 ⟨rfl, hm3, ho3⟩
      have o3 := (Only.of_below (s := memS P.M) (show Below w.heap.size w _ from below_of)).trans ho3
      have l33 : Later w3 w3 := Later.refl
      have D1 := boxed (o3.boxed (B1 w).1 n1)
      have D2 := boxed (o3.boxed (B2 w).1 n2)
      have D3 := boxed (o3.boxed (B3 w).1 h3')
      have DH := boxed (o3.boxed (BH w).1 nh)
      have cy : w3.cell? ⟨b1, 0, none⟩ = some (.pointer (some ⟨P.gh, 0, none⟩)) ∧ w3.cell? ⟨P.gh, 1, none⟩ = some (.pointer (some ⟨P.M.gO, 0, none⟩)) ∧ w3.cell? ⟨P.gh, 2, none⟩ = some (.pointer (some ⟨P.M.gY, 0, none⟩)) ∧ w3.cell? ⟨P.gh, 3, none⟩ = some (.pointer (some ⟨P.gC, 0, none⟩)) ∧ w3.cell? ⟨b2, 0, none⟩ = some (.int .i64 (i : Int)) ∧ w3.cell? ⟨b3, 0, none⟩ = some (.int .u64 y) := ⟨((D1 w3).2 0).1, ((DH w3).2 1).1, ((DH w3).2 2).1, ((DH w3).2 3).1, ((D2 w3).2 0).1, ((D3 w3).2 0).1⟩))
  go_wp2_with fail
  go_ret
  exact ⟨rfl, hm3, o3⟩
theorem hon79_any {base b1 b2 b3 : Nat} {w : World} {P : HpE} {k i : Nat} {h : HdE} {x : IDE} {y : Int} (H : HpAt base w P) (ho : ObjAt P.M.ws k h x) (hst : standsB h = false) (hi : (i : Int) < h.fields) (hy : ValW P.M.ws y)
    (h1 : w.heap[b1]? = some (.cells #[.pointer (some ⟨P.gh, 0, none⟩)] 37 (0, 0))) (h2 : w.heap[b2]? = some (.cells #[.int .i64 (i : Int)] 3 (0, 0))) (h3 : w.heap[b3]? = some (.cells #[.int .u64 y] 34 (0, 0))) (h3' : ¬ memS P.M b3) :
    Calls Tryz.prog 78 #[spP P.gh, .int .u64 (adW k), .func (.func 79) #[] #[.pointer (some ⟨b1, 0, none⟩), .pointer (some ⟨b2, 0, none⟩), .pointer (some ⟨b3, 0, none⟩)]] w (HSet base w P (P.M.ws.set (k + 2 + i) y)) := by
  have HP : ∀ u [Later w u], Calls Tryz.prog 91 #[spP P.gh, .int .u64 (adW k)] u fun r w' => r = .returned (.tuple #[.int .i64 (16777216 + (k : Int)), .bool true]) ∧ Below u.heap.size u w' := fun u _ => pointer_any (H.later u) ho (fun e => by unfold standsB at hst; rw [decide_eq_true (.inr e)] at hst; cases hst)
  have HC : ∀ u [Later w u], Calls Tryz.prog 79 #[.int .i64 (16777216 + (k : Int)), .pointer (some ⟨b1, 0, none⟩), .pointer (some ⟨b2, 0, none⟩), .pointer (some ⟨b3, 0, none⟩)] u (HSet base u P (P.M.ws.set (k + 2 + i) y)) := fun u j =>
    hset1_any _ (H.later u) rfl ho hst hi hy (blk_below h1 j.below) (blk_below h2 j.below) (blk_below h3 j.below) h3'
  obtain ⟨v, hv⟩ : ∃ y, y = adW k := ⟨_, rfl⟩
  obtain ⟨a, ha⟩ : ∃ y, y = 16777216 + (k : Int) := ⟨_, rfl⟩
  rw [← hv]
  simp only [← hv, ← ha] at HP HC
  clear hv ha H ho hst hi hy h1 h2 h3 h3'
  have lww : Later w w := Later.refl
  go_enter Tryz.func78, Tryz.ntmps78
  go_upto_region 4 with (go_at_call 91; refine (HP _).mono ?_; rintro r w1 ⟨rfl, hb1⟩; have l1 := later hb1)
  go_wp2_with (go_at_call 79; refine (HC _).mono ?_; rintro r w2 ⟨rfl, hm2, ho2⟩; have o2 := (Only.of_below (s := memS P.M) (show Below w.heap.size w _ from below_of)).trans ho2)
  go_ret
  exact ⟨rfl, hm2, o2⟩
set_option maxRecDepth 100000 in
set_option maxHeartbeats 8000000 in
theorem hset_any {base : Nat} {w : World} {P : HpE} {k i : Nat} {h : HdE} {x : IDE} {y : Int} (H : HpAt base w P) (ho : ObjAt P.M.ws k h x) (hst : standsB h = false) (hi : (i : Int) < h.fields) (hy : ValW P.M.ws y) :
    Calls Tryz.prog 37 #[spP P.gh, .int .u64 (adW k), .int .i64 (i : Int), .int .u64 y] w (HSet base w P (P.M.ws.set (k + 2 + i) y)) := by
  have hS := H.mem.gw
  have HC : ∀ (b1 b2 b3 : Nat) (u : World) [Later w u], w.heap.size ≤ b3 → u.heap[b1]? = some (.cells #[.pointer (some ⟨P.gh, 0, none⟩)] 37 (0, 0)) → u.heap[b2]? = some (.cells #[.int .i64 (i : Int)] 3 (0, 0)) → u.heap[b3]? = some (.cells #[.int .u64 y] 34 (0, 0)) →
      Calls Tryz.prog 78 #[spP P.gh, .int .u64 (adW k), .func (.func 79) #[] #[.pointer (some ⟨b1, 0, none⟩), .pointer (some ⟨b2, 0, none⟩), .pointer (some ⟨b3, 0, none⟩)]] u (HSet base u P (P.M.ws.set (k + 2 + i) y)) := fun b1 b2 b3 u _ hz h1 h2 h3 =>
    hon79_any (H.later u) ho hst hi hy h1 h2 h3 (fun e => by have := hS _ e; omega)
  obtain ⟨v, hv⟩ : ∃ y, y = adW k := ⟨_, rfl⟩
  rw [← hv]
  simp only [← hv] at HC
  clear hv H ho hst hi hy hS
  have lww : Later w w := Later.refl
  go_enter Tryz.func37, Tryz.ntmps37
  go_upto_region 1 with fail
  refine wp_name ?_
  intro w0 hw0
  obtain ⟨B0, B1, B2, l0⟩ := box3 hw0
  have lw0 : Later w w0 := l0 w
  have l00 : Later w0 w0 := Later.refl
  clear hw0
  have k0 := (B0 w0).1
  have k1 := (B1 w0).1
  have k2 := (B2 w0).1
  go_wp2_with (go_at_call 78; refine (HC _ _ _ w0 (by omega) k0 k1 k2).mono ?_; rintro r w2 ⟨rfl, hm2, ho2⟩; have o2 := (Only.of_below (s := memS P.M) (show Below w.heap.size w w0 from below_of)).trans ho2)
  go_ret
  exact ⟨rfl, hm2, o2⟩
end Go.Proofs.YtjegncmkebbdfaaGreatDoor
