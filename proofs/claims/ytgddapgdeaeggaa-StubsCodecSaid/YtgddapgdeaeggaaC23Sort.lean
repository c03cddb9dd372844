/-
  Contracts of the functions of this seat that each theorem names: what a call returns, and that it writes nothing that was there before. The conditions stand in each theorem.
-/
import Derived.Test.YtgddapgdeaeggaaC23Data
import Derived.Test.YtgddapgdeaeggaaSortLib
import Derived.Test.YtgddapgdeaeggaaLaysortS
import Derived.Shelf.SlSortCmp.NoneTotal
import Derived.Deep.RegionHeld3
namespace Go.Proofs.Ytgddapgdeaeggaa
open Go.RowKit
/-- Grown, found by instances. -/
abbrev Gr (b w : World) : Prop := Nonempty (Grown b w)
section
variable {b w w' : World}
theorem Gr.out (h : Gr b w) : Grown b w := by obtain ⟨x⟩ := h; exact x
instance Gr.refl : Gr w w := ⟨Grown.refl _⟩
instance Gr.drew [h : Gr b w] : Gr b w.drew := ⟨h.out.drew⟩
instance Gr.drewN {n : Nat} [h : Gr b w] : Gr b (w.drewN n) := ⟨h.out.drewN n⟩
instance Gr.alloc {o : Obj} [h : Gr b w] : Gr b (w.alloc o) := ⟨h.out.alloc o⟩
theorem gr {W : World} (h : Grown W w') : ∀ b [Gr b W], Gr b w' := fun _ i => ⟨i.out.trans h⟩
theorem Gr.cell {a : Addr} {v : Value} (h : b.cell? a = some v) : ∀ u [Gr b u], u.cell? a = some v := fun _ i => cell_below h i.out.below
end
def cmpI (x y : Int) : Int := if x < y then -1 else if y < x then 1 else 0
def cmpS (x y : StubE) : Int := if cmpI x.owner y.owner ≠ 0 then cmpI x.owner y.owner else cmpI x.number y.number
instance : Inhabited StubE := ⟨⟨0, 0, 0, 0, 0, 0, 0, false, false, false, 0, 0⟩⟩
theorem cmpS_lt (x y : StubE) : Go.Proofs.ltOf cmpS x y = decide (x.owner < y.owner ∨ (x.owner = y.owner ∧ x.number < y.number)) := by
  unfold Go.Proofs.ltOf cmpS cmpI
  by_cases h1 : x.owner < y.owner
  · simp [h1]
  · by_cases h2 : y.owner < x.owner
    · have : ¬ x.owner = y.owner := by omega
      simp [h1, h2, this]
    · have he : x.owner = y.owner := by omega
      by_cases h3 : x.number < y.number
      · simp [he, h3]
      · by_cases h4 : y.number < x.number <;> simp [he, h3, h4]
theorem cmpS_swo : Go.Sort.SWO (Go.Proofs.ltOf cmpS) := ⟨fun x => by simp [cmpS_lt], fun x y z => by simp only [cmpS_lt, decide_eq_true_eq]; omega, fun x y z => by simp only [cmpS_lt, decide_eq_false_iff_not]; omega⟩
theorem StubE.one (x : StubE) : ∀ v ∈ x.cells, v.oneCell' = true := StubE.enc.one x
set_option maxHeartbeats 1000000 in
theorem compare_any (x y : Int) (w : World) : Calls Try.prog 33 #[.int .i64 x, .int .i64 y] w fun r w' => r = .returned (.int .i64 (cmpI x y)) ∧ Grown w w' := by
  rcases Int.lt_trichotomy x y with h | h | h
  · have Hc := hide (show cmpI x y = -1 by unfold cmpI; rw [if_pos h])
    go_enter Try.func33, Try.ntmps33
    go_wp2
    all_goals go_ret
    all_goals exact ⟨ret_int Hc.out.symm, (inferInstance : Gr w _).out⟩
  · have Hc := hide (show cmpI x y = 0 by unfold cmpI; rw [if_neg (by omega), if_neg (by omega)])
    go_enter Try.func33, Try.ntmps33
    go_wp2
    all_goals go_ret
    all_goals exact ⟨ret_int Hc.out.symm, (inferInstance : Gr w _).out⟩
  · have Hc := hide (show cmpI x y = 1 by unfold cmpI; rw [if_neg (by omega), if_pos (by omega)])
    go_enter Try.func33, Try.ntmps33
    go_wp2
    all_goals go_ret
    all_goals exact ⟨ret_int Hc.out.symm, (inferInstance : Gr w _).out⟩

set_option maxHeartbeats 1000000 in
theorem compareU_any (x y : Int) (w : World) : Calls Try.prog 34 #[.int .u64 x, .int .u64 y] w fun r w' => r = .returned (.int .i64 (cmpI x y)) ∧ Grown w w' := by
  rcases Int.lt_trichotomy x y with h | h | h
  · have Hc := hide (show cmpI x y = -1 by unfold cmpI; rw [if_pos h])
    go_enter Try.func34, Try.ntmps34
    go_wp2
    all_goals go_ret
    all_goals exact ⟨ret_int Hc.out.symm, (inferInstance : Gr w _).out⟩
  · have Hc := hide (show cmpI x y = 0 by unfold cmpI; rw [if_neg (by omega), if_neg (by omega)])
    go_enter Try.func34, Try.ntmps34
    go_wp2
    all_goals go_ret
    all_goals exact ⟨ret_int Hc.out.symm, (inferInstance : Gr w _).out⟩
  · have Hc := hide (show cmpI x y = 1 by unfold cmpI; rw [if_neg (by omega), if_pos (by omega)])
    go_enter Try.func34, Try.ntmps34
    go_wp2
    all_goals go_ret
    all_goals exact ⟨ret_int Hc.out.symm, (inferInstance : Gr w _).out⟩
def orI (a b : Int) : Int := if a ≠ 0 then a else b
set_option maxHeartbeats 1000000 in
theorem or_any (g : Nat) (a b : Int) (w : World) (h0 : w.cell? ⟨g, 0, none⟩ = some (.int .i64 a)) (h1 : w.cell? ⟨g, 1, none⟩ = some (.int .i64 b)) :
    Calls Try.prog 32 #[.slice (some ⟨g, 0, none⟩) 2 2] w fun r w' => r = .returned (.int .i64 (orI a b)) ∧ Grown w w' := by
  have H0 := Gr.cell h0
  have H1 := Gr.cell h1
  go_enter Try.func32, Try.ntmps32
  go_wp2_with fail
  go_loopw [5, 8] (fun _ i wr => ∃ k : Nat, k ≤ 2 ∧ i = .int .i64 k ∧ (0 < k → a = 0) ∧ (1 < k → b = 0) ∧ Grown w wr) (fun _ i _ => 2 - (intOf i).toNat)
  case atStart => exact ⟨0, by omega, rfl, fun h => absurd h (by omega), fun h => absurd h (by omega), Grown.refl _⟩
  case round =>
    obtain ⟨k, hk, rfl, ha, hb, hgr⟩ := hrel
    have lr : ∀ b [Gr b w], Gr b wr := gr hgr
    rcases (by omega : k = 0 ∨ k = 1 ∨ k = 2) with rfl | rfl | rfl
    · by_cases h : a = 0
      · subst h
        go_wp2_with fail
        go_roundw
        case rel => exact ⟨1, by omega, by go_num, fun _ => by simp, fun h => absurd h (by omega), (inferInstance : Gr w _).out⟩
        case measure => simp [intOf]
      · have hn : (a != 0) = true := by simp [h]
        go_wp2_with fail
        go_ret
        exact ⟨ret_int (by simp [orI, h]), (inferInstance : Gr w _).out⟩
    · have ha0 := ha (by omega)
      by_cases h : b = 0
      · subst h
        go_wp2_with fail
        go_roundw
        case rel => exact ⟨2, by omega, by go_num, fun _ => by simpa using ha0, fun _ => by simp, (inferInstance : Gr w _).out⟩
        case measure => simp [intOf]
      · have hn : (b != 0) = true := by simp [h]
        have Ha := hide ha0
        clear ha0 ha
        go_wp2_with fail
        go_ret
        exact ⟨ret_int (by simp [orI, Ha.out]), (inferInstance : Gr w _).out⟩
    · have Ha := hide (ha (by omega))
      have Hb := hide (hb (by omega))
      clear ha hb
      go_wp2_with fail
      go_ret
      exact ⟨ret_int (by simp [orI, Ha.out, Hb.out]), (inferInstance : Gr w _).out⟩
set_option maxHeartbeats 4000000 in
theorem cmpStub_any (x y : StubE) (w : World) :
    Calls Try.prog 31 #[.agg x.cells.toArray, .agg y.cells.toArray] w fun e w' => e = .returned (.int .i64 (cmpS x y)) ∧ Grown w w' := by
  show Calls Try.prog 31 #[x.v, y.v] w fun e w' => e = .returned (.int .i64 (cmpS x y)) ∧ Grown w w'
  have Hc := hide (show cmpS x y = orI (cmpI x.owner y.owner) (cmpI x.number y.number) from rfl)
  go_enter Try.func31, Try.ntmps31
  go_upto_region 1 with fail
  refine wp_name ?_
  intro w1 hw1
  have g1 : ∀ b [Gr b w], Gr b w1 := fun b i => by rw [← hw1]; infer_instance
  have c0 : ∀ u [Gr w1 u], u.cell? ⟨w.heap.size, 0, none⟩ = some (.int .i64 x.owner) := Gr.cell (by rw [← hw1]; simp [go_sem])
  have c1 : ∀ u [Gr w1 u], u.cell? ⟨w.heap.size, 1, none⟩ = some (.int .u64 x.number) := Gr.cell (by rw [← hw1]; simp [go_sem])
  have c2 : ∀ u [Gr w1 u], u.cell? ⟨w.heap.size + 1, 0, none⟩ = some (.int .i64 y.owner) := Gr.cell (by rw [← hw1]; simp [go_sem])
  have c3 : ∀ u [Gr w1 u], u.cell? ⟨w.heap.size + 1, 1, none⟩ = some (.int .u64 y.number) := Gr.cell (by rw [← hw1]; simp [go_sem])
  clear hw1
  go_region_held3 (fun w' => ∀ b [Gr b w1], Gr b w') ((intro b _; infer_instance))
    ((first
      | (go_at_call 33; refine (compare_any _ _ _).mono ?_; rintro r w2 ⟨rfl, hg2⟩; have g2 := gr hg2)
      | (go_at_call 34; refine (compareU_any _ _ _).mono ?_; rintro r w3 ⟨rfl, hg3⟩; have g3 := gr hg3)
      | (go_at_call 32; refine (or_any _ (cmpI x.owner y.owner) (cmpI x.number y.number) _ ((blk_cell (heap_alloc_new _ _) 0).trans rfl) ((blk_cell (heap_alloc_new _ _) 1).trans rfl)).mono ?_; rintro r w4 ⟨rfl, hg4⟩; have g4 := gr hg4)))
  all_goals go_wp2_with fail
  all_goals go_ret
  all_goals exact ⟨ret_int Hc.out.symm, (inferInstance : Gr w _).out⟩
set_option maxHeartbeats 1000000 in
/-- slices.SortFunc over a slice that the call made itself (or nil): it stays the call's own, its list sorted. -/
theorem sortStub (A : Option Addr) (c : Nat) (l : List StubE) (base : Nat) (w : World) (hown : Own StubE.cells 12 37 base w (.slice A l.length c) l) (hl : l.length ≤ 1000000000000) (hbase : base ≤ w.heap.size) :
    Calls Try.prog 60 #[.slice A l.length c, .func (.func 31) #[] #[]] w fun e w' => e = .returned (.tuple #[]) ∧ ∃ l', l'.Perm l ∧ l'.Pairwise (fun x y => Go.Proofs.ltOf cmpS y x = false) ∧
      Own StubE.cells 12 37 base w' (.slice A l.length c) l' ∧ Below base w w' ∧ w.grownBy w' (Value.slice A l.length c).ownBlock := by
  cases l with
  | nil =>
    refine (AnyF.slices_SortFunc_none Try.sortS A c (.func (.func 31) #[] #[]) w).mono ?_
    rintro e w' ⟨rfl, rfl⟩
    exact ⟨rfl, [], List.Perm.refl _, List.Pairwise.nil, hown, Below.refl _ _, World.grownBy.refl _ _⟩
  | cons x0 l0 =>
    obtain ⟨l, hlx⟩ : ∃ l, l = x0 :: l0 := ⟨_, rfl⟩
    obtain ⟨g, rfl⟩ := hown.isSome (by simp)
    rw [← hlx] at hown hl ⊢
    refine (AnyQ.slices_SortFunc (enc := StubE.cells) Try.sortS 12 (fun w => Try.isAgg37 w) (fun w => Try.sizeOf37 w) StubE.enc.len StubE.one cmpS cmpS_swo 31 #[] g 0 c l.toArray w (fun args w => by kernel_rfl) ?_ (hown.holdsK StubE.enc) hown.lt (by simp; omega)).mono ?_
    · intro m os dk _ x y
      refine (cmpStub_any x y _).mono ?_
      rintro e w' ⟨rfl, q, os', hw⟩
      exact ⟨rfl, q, os', hw⟩
    · rintro e w' ⟨rfl, d', n, os, hp, hs, rfl⟩
      have hsz : d'.size = l.length := by simpa using hp.1
      have hg := hown.base_le
      refine ⟨rfl, d'.toList, by simpa using perm_of_permIn (d := l.toArray) (by simpa using hp), ?_, hown.sortK StubE.enc hsz, sortK_below hg hbase, sortK_grownBy⟩
      exact pairwise_of_sortedIn (by rw [hsz]; simpa using hs)
end Go.Proofs.Ytgddapgdeaeggaa
