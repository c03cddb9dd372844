/-
  Contracts of the functions of this seat that each theorem names: what a call returns, and that it writes nothing that was there before. The conditions stand in each theorem.
-/
import Derived.Test.YtnfpbkimdhhmfaaGWalk1
import Derived.Test.YtnfpbkimdhhmfaaGReach16
import Derived.Test.YtnfpbkimdhhmfaaSortLib
import Derived.Test.YtnfpbkimdhhmfaaLaysortI
import Derived.Shelf.SlSortCmp.NoneTotal
import Derived.Deep.RegionHeld3
namespace Go.Proofs.Ytnfpbkimdhhmfaa
open Go.RowKit
instance : Inhabited IDE := ⟨⟨0, 0⟩⟩
/-- Grown, found by instances. -/
abbrev Gr (b w : World) : Prop := Nonempty (Grown b w)
section
variable {b w w' : World}
theorem Gr.out (h : Gr b w) : Grown b w := by obtain ⟨x⟩ := h; exact x
instance Gr.refl : Gr w w := ⟨Grown.refl _⟩
instance Gr.drew [h : Gr b w] : Gr b w.drew := ⟨h.out.drew⟩
instance Gr.drewN {n : Nat} [h : Gr b w] : Gr b (w.drewN n) := ⟨h.out.drewN n⟩
instance Gr.alloc {o : Obj} [h : Gr b w] : Gr b (w.alloc o) := ⟨h.out.alloc o⟩
theorem gr {W : World} (h : Grown W w') : ∀ b [Gr b W], Gr b w' := fun _ i => ⟨i.out.trans h⟩
theorem Gr.cell {a : Addr} {v : Value} (h : b.cell? a = some v) : ∀ u [Gr b u], u.cell? a = some v := fun _ i => cell_below h i.out.below
end
def cmpN (x y : Int) : Int := if x < y then -1 else if y < x then 1 else 0
def cmpJ (x y : IDE) : Int := if cmpN x.machine y.machine ≠ 0 then cmpN x.machine y.machine else cmpN x.serial y.serial
theorem cmpJ_lt (x y : IDE) : Go.Proofs.ltOf cmpJ x y = decide (x.machine < y.machine ∨ (x.machine = y.machine ∧ x.serial < y.serial)) := by
  unfold Go.Proofs.ltOf cmpJ cmpN
  by_cases h1 : x.machine < y.machine
  · simp [h1]
  · by_cases h2 : y.machine < x.machine
    · have : ¬ x.machine = y.machine := by omega
      simp [h1, h2, this]
    · have he : x.machine = y.machine := by omega
      by_cases h3 : x.serial < y.serial
      · simp [he, h3]
      · by_cases h4 : y.serial < x.serial <;> simp [he, h3, h4]
theorem cmpJ_swo : Go.Sort.SWO (Go.Proofs.ltOf cmpJ) := ⟨fun x => by simp [cmpJ_lt], fun x y z => by simp only [cmpJ_lt, decide_eq_true_eq]; omega, fun x y z => by simp only [cmpJ_lt, decide_eq_false_iff_not]; omega⟩
theorem IDE.one (x : IDE) : ∀ v ∈ x.cells, v.oneCell' = true := by
  intro v hv
  simp only [IDE.cells, List.mem_cons, List.not_mem_nil, or_false] at hv
  rcases hv with rfl | rfl <;> rfl
set_option maxHeartbeats 1000000 in
theorem compare_any (x y : Int) (w : World) : Calls Try.prog 58 #[.int .i64 x, .int .i64 y] w fun r w' => r = .returned (.int .i64 (cmpN x y)) ∧ Grown w w' := by
  rcases Int.lt_trichotomy x y with h | h | h
  · have Hc := hide (show cmpN x y = -1 by unfold cmpN; rw [if_pos h])
    go_enter Try.func58, Try.ntmps58
    go_wp2
    all_goals go_ret
    all_goals exact ⟨ret_int Hc.out.symm, (inferInstance : Gr w _).out⟩
  · have Hc := hide (show cmpN x y = 0 by unfold cmpN; rw [if_neg (by omega), if_neg (by omega)])
    go_enter Try.func58, Try.ntmps58
    go_wp2
    all_goals go_ret
    all_goals exact ⟨ret_int Hc.out.symm, (inferInstance : Gr w _).out⟩
  · have Hc := hide (show cmpN x y = 1 by unfold cmpN; rw [if_neg (by omega), if_pos (by omega)])
    go_enter Try.func58, Try.ntmps58
    go_wp2
    all_goals go_ret
    all_goals exact ⟨ret_int Hc.out.symm, (inferInstance : Gr w _).out⟩
def orI (a b : Int) : Int := if a ≠ 0 then a else b
set_option maxHeartbeats 1000000 in
theorem or_any (g : Nat) (a b : Int) (w : World) (h0 : w.cell? ⟨g, 0, none⟩ = some (.int .i64 a)) (h1 : w.cell? ⟨g, 1, none⟩ = some (.int .i64 b)) :
    Calls Try.prog 57 #[.slice (some ⟨g, 0, none⟩) 2 2] w fun r w' => r = .returned (.int .i64 (orI a b)) ∧ Grown w w' := by
  have H0 := Gr.cell h0
  have H1 := Gr.cell h1
  go_enter Try.func57, Try.ntmps57
  go_wp2_with fail
  go_loopw [5, 8] (fun _ i wr => ∃ k : Nat, k ≤ 2 ∧ i = .int .i64 k ∧ (0 < k → a = 0) ∧ (1 < k → b = 0) ∧ Grown w wr) (fun _ i _ => 2 - (intOf i).toNat)
  case atStart => exact ⟨0, by omega, rfl, fun h => absurd h (by omega), fun h => absurd h (by omega), Grown.refl _⟩
  case round =>
    obtain ⟨k, hk, rfl, ha, hb, hgr⟩ := hrel
    have lr : ∀ b [Gr b w], Gr b wr := gr hgr
    rcases (by omega : k = 0 ∨ k = 1 ∨ k = 2) with rfl | rfl | rfl
    · by_cases h : a = 0
      · subst h
        go_wp2_with fail
        go_roundw
        case rel => exact ⟨1, by omega, by go_num, fun _ => by simp, fun h => absurd h (by omega), (inferInstance : Gr w _).out⟩
        case measure => simp [intOf]
      · have hn : (a != 0) = true := by simp [h]
        go_wp2_with fail
        go_ret
        exact ⟨ret_int (by simp [orI, h]), (inferInstance : Gr w _).out⟩
    · have ha0 := ha (by omega)
      by_cases h : b = 0
      · subst h
        go_wp2_with fail
        go_roundw
        case rel => exact ⟨2, by omega, by go_num, fun _ => by simpa using ha0, fun _ => by simp, (inferInstance : Gr w _).out⟩
        case measure => simp [intOf]
      · have hn : (b != 0) = true := by simp [h]
        have Ha := hide ha0
        clear ha0 ha
        go_wp2_with fail
        go_ret
        exact ⟨ret_int (by simp [orI, Ha.out]), (inferInstance : Gr w _).out⟩
    · have Ha := hide (ha (by omega))
      have Hb := hide (hb (by omega))
      clear ha hb
      go_wp2_with fail
      go_ret
      exact ⟨ret_int (by simp [orI, Ha.out, Hb.out]), (inferInstance : Gr w _).out⟩
set_option maxHeartbeats 2000000 in
theorem order_any (x y : IDE) (w : World) :
    Calls Try.prog 47 #[.agg x.cells.toArray, .agg y.cells.toArray] w fun e w' => e = .returned (.int .i64 (cmpJ x y)) ∧ Grown w w' := by
  show Calls Try.prog 47 #[.agg #[.int .i64 x.machine, .int .i64 x.serial], .agg #[.int .i64 y.machine, .int .i64 y.serial]] w fun e w' => e = .returned (.int .i64 (cmpJ x y)) ∧ Grown w w'
  have Hc := hide (show cmpJ x y = orI (cmpN x.machine y.machine) (cmpN x.serial y.serial) from rfl)
  go_enter Try.func47, Try.ntmps47
  go_upto_region 1 with fail
  refine wp_name ?_
  intro w1 hw1
  have g1 : ∀ b [Gr b w], Gr b w1 := fun b i => by rw [← hw1]; infer_instance
  have c0 : ∀ u [Gr w1 u], u.cell? ⟨w.heap.size, 0, none⟩ = some (.int .i64 x.machine) := Gr.cell (by rw [← hw1]; simp [go_sem])
  have c1 : ∀ u [Gr w1 u], u.cell? ⟨w.heap.size, 1, none⟩ = some (.int .i64 x.serial) := Gr.cell (by rw [← hw1]; simp [go_sem])
  have c2 : ∀ u [Gr w1 u], u.cell? ⟨w.heap.size + 1, 0, none⟩ = some (.int .i64 y.machine) := Gr.cell (by rw [← hw1]; simp [go_sem])
  have c3 : ∀ u [Gr w1 u], u.cell? ⟨w.heap.size + 1, 1, none⟩ = some (.int .i64 y.serial) := Gr.cell (by rw [← hw1]; simp [go_sem])
  clear hw1
  go_region_held3 (fun w' => ∀ b [Gr b w1], Gr b w') ((intro b _; infer_instance))
    ((first
      | (go_at_call 58; refine (compare_any _ _ _).mono ?_; rintro r w2 ⟨rfl, hg2⟩; have g2 := gr hg2)
      | (go_at_call 57; refine (or_any _ (cmpN x.machine y.machine) (cmpN x.serial y.serial) _ ((blk_cell (heap_alloc_new _ _) 0).trans rfl) ((blk_cell (heap_alloc_new _ _) 1).trans rfl)).mono ?_; rintro r w4 ⟨rfl, hg4⟩; have g4 := gr hg4)))
  all_goals go_wp2_with fail
  all_goals go_ret
  all_goals exact ⟨ret_int Hc.out.symm, (inferInstance : Gr w _).out⟩
set_option maxHeartbeats 1000000 in
/-- slices.SortFunc over a slice that the call made itself (or nil): it stays the call's own, its list sorted. -/
theorem sortOrder (A : Option Addr) (c : Nat) (l : List IDE) (base : Nat) (w : World) (hown : Own IDE.cells 2 37 base w (.slice A l.length c) l) (hl : l.length ≤ 1000000000000) (hbase : base ≤ w.heap.size) :
    Calls Try.prog 46 #[.slice A l.length c, .func (.func 47) #[] #[]] w fun e w' => e = .returned (.tuple #[]) ∧ ∃ l', l'.Perm l ∧ l'.Pairwise (fun x y => Go.Proofs.ltOf cmpJ y x = false) ∧
      Own IDE.cells 2 37 base w' (.slice A l.length c) l' ∧ Below base w w' ∧ w.grownBy w' (Value.slice A l.length c).ownBlock := by
  cases l with
  | nil =>
    refine (AnyF.slices_SortFunc_none Try.sortI A c (.func (.func 47) #[] #[]) w).mono ?_
    rintro e w' ⟨rfl, rfl⟩
    exact ⟨rfl, [], List.Perm.refl _, List.Pairwise.nil, hown, Below.refl _ _, World.grownBy.refl _ _⟩
  | cons x0 l0 =>
    obtain ⟨l, hlx⟩ : ∃ l, l = x0 :: l0 := ⟨_, rfl⟩
    obtain ⟨g, rfl⟩ := hown.isSome (by simp)
    rw [← hlx] at hown hl ⊢
    refine (AnyQ.slices_SortFunc (enc := IDE.cells) Try.sortI 2 (fun w => Try.isAgg37 w) (fun w => Try.sizeOf37 w) IDE.enc.len IDE.one cmpJ cmpJ_swo 47 #[] g 0 c l.toArray w (fun args w => by kernel_rfl) ?_ (hown.holdsK IDE.enc) hown.lt (by simp; omega)).mono ?_
    · intro m os dk _ x y
      refine (order_any x y _).mono ?_
      rintro e w' ⟨rfl, q, os', hw⟩
      exact ⟨rfl, q, os', hw⟩
    · rintro e w' ⟨rfl, d', n, os, hp, hs, rfl⟩
      have hsz : d'.size = l.length := by simpa using hp.1
      have hg := hown.base_le
      refine ⟨rfl, d'.toList, by simpa using perm_of_permIn (d := l.toArray) (by simpa using hp), ?_, hown.sortK IDE.enc hsz, sortK_below hg hbase, sortK_grownBy⟩
      exact pairwise_of_sortedIn (by rw [hsz]; simpa using hs)
set_option maxHeartbeats 2000000 in
theorem compareI_any (x y : IDE) (w : World) :
    Calls Try.prog 49 #[.agg x.cells.toArray, .agg y.cells.toArray] w fun e w' => e = .returned (.int .i64 (cmpJ x y)) ∧ Grown w w' := by
  show Calls Try.prog 49 #[.agg #[.int .i64 x.machine, .int .i64 x.serial], .agg #[.int .i64 y.machine, .int .i64 y.serial]] w fun e w' => e = .returned (.int .i64 (cmpJ x y)) ∧ Grown w w'
  have Hc := hide (show cmpJ x y = orI (cmpN x.machine y.machine) (cmpN x.serial y.serial) from rfl)
  go_enter Try.func49, Try.ntmps49
  go_upto_region 1 with fail
  refine wp_name ?_
  intro w1 hw1
  have g1 : ∀ b [Gr b w], Gr b w1 := fun b i => by rw [← hw1]; infer_instance
  have c0 : ∀ u [Gr w1 u], u.cell? ⟨w.heap.size, 0, none⟩ = some (.int .i64 x.machine) := Gr.cell (by rw [← hw1]; simp [go_sem])
  have c1 : ∀ u [Gr w1 u], u.cell? ⟨w.heap.size, 1, none⟩ = some (.int .i64 x.serial) := Gr.cell (by rw [← hw1]; simp [go_sem])
  have c2 : ∀ u [Gr w1 u], u.cell? ⟨w.heap.size + 1, 0, none⟩ = some (.int .i64 y.machine) := Gr.cell (by rw [← hw1]; simp [go_sem])
  have c3 : ∀ u [Gr w1 u], u.cell? ⟨w.heap.size + 1, 1, none⟩ = some (.int .i64 y.serial) := Gr.cell (by rw [← hw1]; simp [go_sem])
  clear hw1
  go_region_held3 (fun w' => ∀ b [Gr b w1], Gr b w') ((intro b _; infer_instance))
    ((first
      | (go_at_call 58; refine (compare_any _ _ _).mono ?_; rintro r w2 ⟨rfl, hg2⟩; have g2 := gr hg2)
      | (go_at_call 57; refine (or_any _ (cmpN x.machine y.machine) (cmpN x.serial y.serial) _ ((blk_cell (heap_alloc_new _ _) 0).trans rfl) ((blk_cell (heap_alloc_new _ _) 1).trans rfl)).mono ?_; rintro r w4 ⟨rfl, hg4⟩; have g4 := gr hg4)))
  all_goals go_wp2_with fail
  all_goals go_ret
  all_goals exact ⟨ret_int Hc.out.symm, (inferInstance : Gr w _).out⟩
set_option maxHeartbeats 1000000 in
/-- slices.SortFunc over a slice that the call made itself (or nil): it stays the call's own, its list sorted. -/
theorem sortIds (A : Option Addr) (c : Nat) (l : List IDE) (base : Nat) (w : World) (hown : Own IDE.cells 2 37 base w (.slice A l.length c) l) (hl : l.length ≤ 1000000000000) (hbase : base ≤ w.heap.size) :
    Calls Try.prog 46 #[.slice A l.length c, .func (.func 49) #[] #[]] w fun e w' => e = .returned (.tuple #[]) ∧ ∃ l', l'.Perm l ∧ l'.Pairwise (fun x y => Go.Proofs.ltOf cmpJ y x = false) ∧
      Own IDE.cells 2 37 base w' (.slice A l.length c) l' ∧ Below base w w' ∧ w.grownBy w' (Value.slice A l.length c).ownBlock := by
  cases l with
  | nil =>
    refine (AnyF.slices_SortFunc_none Try.sortI A c (.func (.func 49) #[] #[]) w).mono ?_
    rintro e w' ⟨rfl, rfl⟩
    exact ⟨rfl, [], List.Perm.refl _, List.Pairwise.nil, hown, Below.refl _ _, World.grownBy.refl _ _⟩
  | cons x0 l0 =>
    obtain ⟨l, hlx⟩ : ∃ l, l = x0 :: l0 := ⟨_, rfl⟩
    obtain ⟨g, rfl⟩ := hown.isSome (by simp)
    rw [← hlx] at hown hl ⊢
    refine (AnyQ.slices_SortFunc (enc := IDE.cells) Try.sortI 2 (fun w => Try.isAgg37 w) (fun w => Try.sizeOf37 w) IDE.enc.len IDE.one cmpJ cmpJ_swo 49 #[] g 0 c l.toArray w (fun args w => by kernel_rfl) ?_ (hown.holdsK IDE.enc) hown.lt (by simp; omega)).mono ?_
    · intro m os dk _ x y
      refine (compareI_any x y _).mono ?_
      rintro e w' ⟨rfl, q, os', hw⟩
      exact ⟨rfl, q, os', hw⟩
    · rintro e w' ⟨rfl, d', n, os, hp, hs, rfl⟩
      have hsz : d'.size = l.length := by simpa using hp.1
      have hg := hown.base_le
      refine ⟨rfl, d'.toList, by simpa using perm_of_permIn (d := l.toArray) (by simpa using hp), ?_, hown.sortK IDE.enc hsz, sortK_below hg hbase, sortK_grownBy⟩
      exact pairwise_of_sortedIn (by rw [hsz]; simpa using hs)
theorem sortedJ {l : List IDE} (h : l.Pairwise (fun x y => Go.Proofs.ltOf cmpJ y x = false)) : l.Pairwise (fun x y => ¬ ltI y x) := h.imp fun {a b} hab hl => by
  rw [cmpJ_lt, decide_eq_false_iff_not] at hab
  exact hab hl
/-- A sorted list without repetitions increases strictly. -/
theorem sortedI_of {l : List IDE} (h : l.Pairwise (fun x y => ¬ ltI y x)) (hn : l.Nodup) : SortedI l := by
  unfold SortedI
  refine List.Pairwise.imp (fun {a b} (hab : ¬ ltI b a ∧ a ≠ b) => ?_) (h.and hn)
  rcases ltI_total a b with h1 | h1 | h1
  · exact h1
  · exact absurd h1 hab.2
  · exact absurd h1 hab.1
end Go.Proofs.Ytnfpbkimdhhmfaa
