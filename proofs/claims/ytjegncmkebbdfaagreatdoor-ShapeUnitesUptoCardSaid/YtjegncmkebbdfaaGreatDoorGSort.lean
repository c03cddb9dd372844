/-
  Contracts of the functions of this seat that each theorem names: what a call returns, and that it writes nothing that was there before. The conditions stand in each theorem.
-/
import Derived.Test.YtjegncmkebbdfaaGreatDoorGWalk1
import Derived.Test.YtjegncmkebbdfaaGreatDoorGReach16
import Derived.Test.YtjegncmkebbdfaaGreatDoorGCmp
import Derived.Test.YtjegncmkebbdfaaGreatDoorLaysortI
import Derived.Shelf.SlSortCmp.NoneTotal
import Derived.Deep.RegionHeld3
set_option linter.unusedSimpArgs false
set_option linter.unusedVariables false
namespace Go.Proofs.YtjegncmkebbdfaaGreatDoor
open Go.RowKit
instance : Inhabited IDE := ⟨⟨0, 0⟩⟩
def cmpJ (x y : IDE) : Int := if cmpN x.machine y.machine ≠ 0 then cmpN x.machine y.machine else cmpN x.serial y.serial
theorem cmpJ_lt (x y : IDE) : Go.Proofs.ltOf cmpJ x y = decide (x.machine < y.machine ∨ (x.machine = y.machine ∧ x.serial < y.serial)) := by
  unfold Go.Proofs.ltOf cmpJ cmpN
  by_cases h1 : x.machine < y.machine
  · simp [h1]
  · by_cases h2 : y.machine < x.machine
    · have : ¬ x.machine = y.machine := by omega
      simp [h1, h2, this]
    · have he : x.machine = y.machine := by omega
      by_cases h3 : x.serial < y.serial
      · simp [he, h3]
      · by_cases h4 : y.serial < x.serial <;> simp [he, h3, h4]
theorem cmpJ_swo : Go.Sort.SWO (Go.Proofs.ltOf cmpJ) := ⟨fun x => by simp [cmpJ_lt], fun x y z => by simp only [cmpJ_lt, decide_eq_true_eq]; omega, fun x y z => by simp only [cmpJ_lt, decide_eq_false_iff_not]; omega⟩
theorem IDE.one (x : IDE) : ∀ v ∈ x.cells, v.oneCell' = true := by
  intro v hv
  simp only [IDE.cells, List.mem_cons, List.not_mem_nil, or_false] at hv
  rcases hv with rfl | rfl <;> rfl
set_option maxHeartbeats 2000000 in
theorem order_any (x y : IDE) (w : World) :
    Calls Tryz.prog 50 #[.agg x.cells.toArray, .agg y.cells.toArray] w fun e w' => e = .returned (.int .i64 (cmpJ x y)) ∧ Grown w w' := by
  show Calls Tryz.prog 50 #[.agg #[.int .i64 x.machine, .int .i64 x.serial], .agg #[.int .i64 y.machine, .int .i64 y.serial]] w fun e w' => e = .returned (.int .i64 (cmpJ x y)) ∧ Grown w w'
  have Hc := hide (show cmpJ x y = orI (cmpN x.machine y.machine) (cmpN x.serial y.serial) from rfl)
  go_enter Tryz.func50, Tryz.ntmps50
  go_upto_region 1 with fail
  refine wp_name ?_
  intro w1 hw1
  have g1 : ∀ b [Gr b w], Gr b w1 := fun b i => by rw [← hw1]; infer_instance
  have c0 : ∀ u [Gr w1 u], u.cell? ⟨w.heap.size, 0, none⟩ = some (.int .i64 x.machine) := Gr.cell (by rw [← hw1]; simp [go_sem])
  have c1 : ∀ u [Gr w1 u], u.cell? ⟨w.heap.size, 1, none⟩ = some (.int .i64 x.serial) := Gr.cell (by rw [← hw1]; simp [go_sem])
  have c2 : ∀ u [Gr w1 u], u.cell? ⟨w.heap.size + 1, 0, none⟩ = some (.int .i64 y.machine) := Gr.cell (by rw [← hw1]; simp [go_sem])
  have c3 : ∀ u [Gr w1 u], u.cell? ⟨w.heap.size + 1, 1, none⟩ = some (.int .i64 y.serial) := Gr.cell (by rw [← hw1]; simp [go_sem])
  clear hw1
  go_region_held3 (fun w' => ∀ b [Gr b w1], Gr b w') ((intro b _; infer_instance))
    ((first
      | (go_at_call 98; refine (compare_any _ _ _).mono ?_; rintro r w2 ⟨rfl, hg2⟩; have g2 := gr hg2)
      | (go_at_call 97; refine (or_any _ (cmpN x.machine y.machine) (cmpN x.serial y.serial) _ ((blk_cell (heap_alloc_new _ _) 0).trans rfl) ((blk_cell (heap_alloc_new _ _) 1).trans rfl)).mono ?_; rintro r w4 ⟨rfl, hg4⟩; have g4 := gr hg4)))
  all_goals go_wp2_with fail
  all_goals go_ret
  all_goals exact ⟨ret_int Hc.out.symm, (inferInstance : Gr w _).out⟩
set_option maxHeartbeats 1000000 in
/-- slices.SortFunc over a slice that the call made itself (or nil): it stays the call's own, its list sorted. -/
theorem sortOrder (A : Option Addr) (c : Nat) (l : List IDE) (base : Nat) (w : World) (hown : Own IDE.cells 2 44 base w (.slice A l.length c) l) (hl : l.length ≤ 1000000000000) (hbase : base ≤ w.heap.size) :
    Calls Tryz.prog 49 #[.slice A l.length c, .func (.func 50) #[] #[]] w fun e w' => e = .returned (.tuple #[]) ∧ ∃ l', l'.Perm l ∧ l'.Pairwise (fun x y => Go.Proofs.ltOf cmpJ y x = false) ∧
      Own IDE.cells 2 44 base w' (.slice A l.length c) l' ∧ Below base w w' ∧ w.grownBy w' (Value.slice A l.length c).ownBlock := by
  cases l with
  | nil =>
    refine (AnyF.slices_SortFunc_none Tryz.sortI A c (.func (.func 50) #[] #[]) w).mono ?_
    rintro e w' ⟨rfl, rfl⟩
    exact ⟨rfl, [], List.Perm.refl _, List.Pairwise.nil, hown, Below.refl _ _, World.grownBy.refl _ _⟩
  | cons x0 l0 =>
    obtain ⟨l, hlx⟩ : ∃ l, l = x0 :: l0 := ⟨_, rfl⟩
    obtain ⟨g, rfl⟩ := hown.isSome (by simp)
    rw [← hlx] at hown hl ⊢
    refine (AnyQ.slices_SortFunc (enc := IDE.cells) Tryz.sortI 2 (fun w => Tryz.isAgg44 w) (fun w => Tryz.sizeOf44 w) IDE.enc.len IDE.one cmpJ cmpJ_swo 50 #[] g 0 c l.toArray w (fun args w => by kernel_rfl) ?_ (hown.holdsK IDE.enc) hown.lt (by simp; omega)).mono ?_
    · intro m os dk _ x y
      refine (order_any x y _).mono ?_
      rintro e w' ⟨rfl, q, os', hw⟩
      exact ⟨rfl, q, os', hw⟩
    · rintro e w' ⟨rfl, d', n, os, hp, hs, rfl⟩
      have hsz : d'.size = l.length := by simpa using hp.1
      have hg := hown.base_le
      refine ⟨rfl, d'.toList, by simpa using perm_of_permIn (d := l.toArray) (by simpa using hp), ?_, hown.sortK IDE.enc hsz, sortK_below hg hbase, sortK_grownBy⟩
      exact pairwise_of_sortedIn (by rw [hsz]; simpa using hs)
theorem sortedJ {l : List IDE} (h : l.Pairwise (fun x y => Go.Proofs.ltOf cmpJ y x = false)) : l.Pairwise (fun x y => ¬ ltI y x) := h.imp fun {a b} hab hl => by
  rw [cmpJ_lt, decide_eq_false_iff_not] at hab
  exact hab hl
/-- A sorted list without repetitions increases strictly. -/
theorem sortedI_of {l : List IDE} (h : l.Pairwise (fun x y => ¬ ltI y x)) (hn : l.Nodup) : SortedI l := by
  unfold SortedI
  refine List.Pairwise.imp (fun {a b} (hab : ¬ ltI b a ∧ a ≠ b) => ?_) (h.and hn)
  rcases ltI_total a b with h1 | h1 | h1
  · exact h1
  · exact absurd h1 hab.2
  · exact absurd h1 hab.1
end Go.Proofs.YtjegncmkebbdfaaGreatDoor
