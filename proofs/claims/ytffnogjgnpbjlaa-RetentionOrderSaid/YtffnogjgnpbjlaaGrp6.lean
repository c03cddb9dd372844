/-
  Small texts of this seat, put into one. Conditions stand in each theorem.
-/
import Derived.Shelf.SlSortCmp.Whole1
import Derived.Ground.SlsfProg
import Derived.Test.YtffnogjgnpbjlaaProg
import Derived.Test.YtffnogjgnpbjlaaGrp14
import Derived.Test.YtffnogjgnpbjlaaGrp4
import Derived.Test.YtffnogjgnpbjlaaGrpZ
import Derived.Shelf.SlSortCmp.NoneTotal
namespace Go.Proofs
open Go.Shelf
def Try.sortN_ren : Go.Shelf.Ren := ⟨fun | 6 => 53 | 15 => 67 | 14 => 73 | 28 => 85 | 29 => 86 | 20 => 89 | 21 => 90 | 22 => 91 | 23 => 92 | 24 => 93 | 25 => 94 | 26 => 95 | 27 => 96 | 46 => 103 | 47 => 99 | 48 => 100 | 49 => 104 | 50 => 105 | 57 => 108 | n => n, fun | 22 => 32 | 24 => 3 | 25 => 75 | 3 => 3 | 39 => 99 | 0 => 0 | 53 => 117 | 55 => 119 | 4 => 4 | 46 => 111 | 45 => 110 | 50 => 102 | 5 => 5 | 9 => 9 | 66 => 129 | 70 => 133 | 76 => 137 | 77 => 138 | n => n, fun | n => n⟩
theorem Try.sortN : Go.Proofs.SlLaysF.n6 Try.prog Try.sortN_ren := {
  mixed := by kernel_rfl
  f6 := ⟨Try.f53.name, by decide, Try.func53.trans (congrArg some (by kernel_rfl))⟩
  f14 := ⟨Try.f73.name, by decide, Try.func73.trans (congrArg some (by kernel_rfl))⟩
  f15 := Try.func67.trans (congrArg some (by kernel_rfl))
  f20 := ⟨Try.f89.name, by decide, Try.func89.trans (congrArg some (by kernel_rfl))⟩
  f21 := ⟨Try.f90.name, by decide, Try.func90.trans (congrArg some (by kernel_rfl))⟩
  f22 := ⟨Try.f91.name, by decide, Try.func91.trans (congrArg some (by kernel_rfl))⟩
  f23 := ⟨Try.f92.name, by decide, Try.func92.trans (congrArg some (by kernel_rfl))⟩
  f24 := ⟨Try.f93.name, by decide, Try.func93.trans (congrArg some (by kernel_rfl))⟩
  f25 := ⟨Try.f94.name, by decide, Try.func94.trans (congrArg some (by kernel_rfl))⟩
  f26 := ⟨Try.f95.name, by decide, Try.func95.trans (congrArg some (by kernel_rfl))⟩
  f27 := ⟨Try.f96.name, by decide, Try.func96.trans (congrArg some (by kernel_rfl))⟩
  f28 := Try.func85.trans (congrArg some (by kernel_rfl))
  f29 := Try.func86.trans (congrArg some (by kernel_rfl))
  f46 := ⟨Try.f103.name, by decide, Try.func103.trans (congrArg some (by kernel_rfl))⟩
  f47 := Try.func99.trans (congrArg some (by kernel_rfl))
  f48 := Try.func100.trans (congrArg some (by kernel_rfl))
  f49 := ⟨Try.f104.name, by decide, Try.func104.trans (congrArg some (by kernel_rfl))⟩
  f50 := ⟨Try.f105.name, by decide, Try.func105.trans (congrArg some (by kernel_rfl))⟩
  f57 := ⟨Try.f108.name, by decide, Try.func108.trans (congrArg some (by kernel_rfl))⟩
  t0 := Try.underlying0
  a0 := Try.isAgg0
  z0 := Try.sizeOf0
  v0 := Try.zeroValue0
  t3 := Try.underlying3
  a3 := Try.isAgg3
  z3 := Try.sizeOf3
  v3 := Try.zeroValue3
  t4 := Try.underlying4
  a4 := Try.isAgg4
  z4 := Try.sizeOf4
  v4 := Try.zeroValue4
  t5 := Try.underlying5
  a5 := Try.isAgg5
  z5 := Try.sizeOf5
  v5 := Try.zeroValue5
  t9 := Try.underlying9
  a9 := Try.isAgg9
  z9 := Try.sizeOf9
  v9 := Try.zeroValue9
  t22 := Try.underlying32
  a22 := Try.isAgg32
  z22 := Try.sizeOf32
  v22 := Try.zeroValue32
  a24 := Try.isAgg3
  z24 := Try.sizeOf3
  t25 := Try.underlying75
  a25 := Try.isAgg75
  z25 := Try.sizeOf75
  v25 := Try.zeroValue75
  t39 := Try.underlying99
  a39 := Try.isAgg99
  z39 := Try.sizeOf99
  v39 := Try.zeroValue99
  t45 := Try.underlying110
  a45 := Try.isAgg110
  z45 := Try.sizeOf110
  v45 := Try.zeroValue110
  t46 := Try.underlying111
  a46 := Try.isAgg111
  z46 := Try.sizeOf111
  v46 := Try.zeroValue111
  t50 := Try.underlying102
  a50 := Try.isAgg102
  z50 := Try.sizeOf102
  v50 := Try.zeroValue102
  t53 := Try.underlying117
  a53 := Try.isAgg117
  z53 := Try.sizeOf117
  v53 := Try.zeroValue117
  t55 := Try.underlying119
  a55 := Try.isAgg119
  z55 := Try.sizeOf119
  v55 := Try.zeroValue119
  t66 := Try.underlying129
  a66 := Try.isAgg129
  z66 := Try.sizeOf129
  v66 := Try.zeroValue129
  t70 := Try.underlying133
  a70 := Try.isAgg133
  z70 := Try.sizeOf133
  v70 := Try.zeroValue133
  t76 := Try.underlying137
  a76 := Try.isAgg137
  z76 := Try.sizeOf137
  v76 := Try.zeroValue137
  t77 := Try.underlying138
  a77 := Try.isAgg138
  z77 := Try.sizeOf138
  v77 := Try.zeroValue138 }
end Go.Proofs

set_option linter.unusedSimpArgs false
set_option linter.unusedVariables false
namespace Go.Proofs.Ytffnogjgnpbjlaa
open Go.RowKit
attribute [local go_sem] Oper.semAt_some Instr.makeFunc
attribute [local simp] heap_drew
theorem intTO : ElemT Try.prog 32 3 1 8 := ElemT.mk' (z := .int .i64 0) Try.underlying32 (by kernel_rfl) rfl
/-! ### The sort of a row of single cells is the sort of a row of rows of one cell -/
section
variable {α : Type} [Inhabited α]
theorem putCells_one (enc : α → Value) (d : Array α) (c : Array Value) : Go.Sort.putCells enc 0 d c = Go.Sort.putCells id 0 (Go.Sort.flatK (fun x => [enc x]) 1 d) c := by
  unfold Go.Sort.putCells
  apply Array.ext
  · simp
  · intro j h1 h2
    simp only [Array.getElem_mapIdx, Go.Sort.size_flatK, Nat.mul_one, id_eq]
    split
    · rename_i h
      rw [Go.Sort.get_flatK _ _ _ _ (by omega)]
      simp [Nat.mod_one]
    · rfl
theorem sortWorld_one (enc : α → Value) (w : World) (g m : Nat) (d : Array α) (os : Array Obj) : Go.Proofs.sortWorld enc w g 0 m d os = Go.Proofs.sortWorldK (fun x => [enc x]) 1 w g 0 m d os := by
  unfold Go.Proofs.sortWorld Go.Proofs.sortWorldK Go.Sort.putRowK Go.Sort.putRow
  rw [show Go.Sort.putCells enc 0 d = Go.Sort.putCells id 0 (Go.Sort.flatK (fun x => [enc x]) 1 d) from funext (putCells_one enc d)]
theorem holds_one (enc : α → Value) (w : World) (g : Nat) (d : Array α) (h : Go.Sort.HoldsK (fun x => [enc x]) 1 w g 0 d) : Go.Sort.Holds enc w g 0 d := fun j hj => by
  have h1 := h j (by simpa using hj)
  rw [Go.Sort.get_flatK _ _ _ _ (by omega)] at h1
  simpa [Nat.mod_one] using h1
end
/-- A number below n in memory. -/
def finC {n : Nat} (i : Fin n) : List Value := [.int .i64 (i.val : Int)]
theorem finC_enc {n : Nat} : Enc (finC (n := n)) 1 := ⟨fun _ => rfl, fun x u hu => by simp only [finC, List.mem_singleton] at hu; rw [hu]; rfl, by decide⟩
theorem own_fin {n : Nat} {e : TypeId} {base : Nat} {w : World} {v : Value} {l : List (Fin n)} : Own finC 1 e base w v l ↔ Own I64.cells 1 e base w v (l.map fun i => (i.val : Int)) := by
  unfold Own
  rw [List.length_map, List.flatMap_map]
  exact Iff.rfl
def cmpF (ids : List IDE) (i j : Fin ids.length) : Int := cmpJ (ids.getD i.val ⟨0, 0⟩) (ids.getD j.val ⟨0, 0⟩)
theorem cmpF_lt (ids : List IDE) (i j : Fin ids.length) : Go.Proofs.ltOf (cmpF ids) i j = Go.Proofs.ltOf cmpJ (ids.getD i.val ⟨0, 0⟩) (ids.getD j.val ⟨0, 0⟩) := rfl
theorem cmpF_swo (ids : List IDE) : Go.Sort.SWO (Go.Proofs.ltOf (cmpF ids)) := ⟨fun x => by rw [cmpF_lt]; exact cmpJ_swo.irrefl _, fun x y z => by simp only [cmpF_lt]; exact cmpJ_swo.trans _ _ _, fun x y z => by simp only [cmpF_lt]; exact cmpJ_swo.ntrans _ _ _⟩
set_option maxRecDepth 100000 in
set_option maxHeartbeats 2000000 in
/-- order's closure. -/
theorem order1_any (ids : List IDE) (iA : Option Addr) (iC : Nat) (v1 v2 : Value) (b gt : Nat) (w : World) (hb : w.heap[b]? = some (.cells #[.pointer (some ⟨gt, 0, none⟩)] 65 (0, 0))) (ht : w.heap[gt]? = some (.cells #[.slice iA ids.length iC, v1, v2] 69 (0, 0))) (hS : SlAt IDE.cells 2 w iA ids) (i j : Fin ids.length) :
    Calls Try.prog 54 #[.int .i64 (i.val : Int), .int .i64 (j.val : Int), .pointer (some ⟨b, 0, none⟩)] w fun e w' => e = .returned (.int .i64 (cmpF ids i j)) ∧ Grown w w' := by
  obtain ⟨i, hi⟩ := i
  obtain ⟨j, hj⟩ := j
  obtain ⟨x, hx⟩ : ∃ x, ids[i]? = some x := ⟨_, List.getElem?_eq_getElem hi⟩
  obtain ⟨y, hy⟩ : ∃ y, ids[j]? = some y := ⟨_, List.getElem?_eq_getElem hj⟩
  have Hc := hide (show cmpF ids ⟨i, hi⟩ ⟨j, hj⟩ = cmpJ x y by unfold cmpF; dsimp only; rw [getD_of hx, getD_of hy])
  have hii : (i : Int) < (ids.length : Int) := by omega
  have hji : (j : Int) < (ids.length : Int) := by omega
  obtain ⟨b9, o9, rfl, C1, C2⟩ := id_at hS hx
  obtain ⟨b8, o8, e8, D1, D2⟩ := id_at hS hy
  injection e8 with e8
  injection e8 with e8 e8'
  subst e8 e8'
  have c0 : ∀ u [Gr w u], u.cell? ⟨b, 0, none⟩ = some (.pointer (some ⟨gt, 0, none⟩)) := Gr.cell ((blk_cell hb 0).trans rfl)
  have ct : ∀ u [Gr w u], u.cell? ⟨gt, 0, none⟩ = some (.slice (some ⟨b9, o9, none⟩) ids.length iC) := Gr.cell ((blk_cell ht 0).trans rfl)
  have c1 := Gr.cell (C1 w)
  have c2 := Gr.cell (C2 w)
  have d1 := Gr.cell (D1 w)
  have d2 := Gr.cell (D2 w)
  clear C1 C2 D1 D2 hx hy hS hb ht
  dsimp only
  go_enter Try.func54, Try.ntmps54
  go_upto_region 1 with fail
  go_region_held3 (fun w' => ∀ b [Gr b w], Gr b w') ((intro b _; infer_instance))
    ((first | (go_at_call 55; refine (compareI_any x y _).mono ?_; rintro r w2 ⟨rfl, hg2⟩; have g2 := gr hg2)))
  all_goals go_wp2_with fail
  all_goals go_ret
  all_goals exact ⟨ret_int Hc.out.symm, (inferInstance : Gr w _).out⟩
set_option maxHeartbeats 1000000 in
theorem sortOrd (ids : List IDE) (iA : Option Addr) (iC : Nat) (v1 v2 : Value) (b gt : Nat) (w0 w : World) (hb : w0.heap[b]? = some (.cells #[.pointer (some ⟨gt, 0, none⟩)] 65 (0, 0))) (ht : w0.heap[gt]? = some (.cells #[.slice iA ids.length iC, v1, v2] 69 (0, 0))) (hS : SlAt IDE.cells 2 w0 iA ids)
    (A : Option Addr) (c : Nat) (l : List (Fin ids.length)) (hw : Below w0.heap.size w0 w) (hown : Own finC 1 3 w0.heap.size w (.slice A l.length c) l) (hl : l.length ≤ 1000000000000) :
    Calls Try.prog 53 #[.slice A l.length c, .func (.func 54) #[] #[.pointer (some ⟨b, 0, none⟩)]] w fun e w' => e = .returned (.tuple #[]) ∧ ∃ l', l'.Perm l ∧ l'.Pairwise (fun x y => Go.Proofs.ltOf (cmpF ids) y x = false) ∧
      Own finC 1 3 w0.heap.size w' (.slice A l.length c) l' ∧ Below w0.heap.size w w' := by
  have hbase := hw.size
  cases l with
  | nil =>
    refine (AnyF.slices_SortFunc_none (P := Try.prog) (ρ := Try.sortN_ren) { Try.sortN with } A c (.func (.func 54) #[] #[.pointer (some ⟨b, 0, none⟩)]) w).mono ?_
    rintro e w' ⟨rfl, rfl⟩
    exact ⟨rfl, [], List.Perm.refl _, List.Pairwise.nil, hown, Below.refl _ _⟩
  | cons x0 l0 =>
    haveI : Inhabited (Fin ids.length) := ⟨x0⟩
    obtain ⟨l, hlx⟩ : ∃ l, l = x0 :: l0 := ⟨_, rfl⟩
    obtain ⟨g, rfl⟩ := hown.isSome (by simp)
    rw [← hlx] at hown hl ⊢
    have hg := hown.base_le
    refine (Any.slices_SortFunc (P := Try.prog) (ρ := Try.sortN_ren) Try.sortN (fun i : Fin ids.length => Value.int .i64 (i.val : Int)) (fun _ => rfl) (cmpF ids) (cmpF_swo ids) 54 #[.pointer (some ⟨b, 0, none⟩)] g 0 c l.toArray w (fun args w => by kernel_rfl) ?_ (holds_one _ _ _ _ (hown.holdsK finC_enc)) hown.lt (by simp; omega)).mono ?_
    · intro m os dk hdk x y
      have hbu : Below w0.heap.size w (Go.Proofs.sortWorld (fun i : Fin ids.length => Value.int .i64 (i.val : Int)) w g 0 m dk os) := by rw [sortWorld_one]; exact sortK_below hg hbase
      have hu := hw.trans hbu
      refine (order1_any ids iA iC v1 v2 b gt _ (blk_below hb hu) (blk_below ht hu) (hS.below hu) x y).mono ?_
      rintro e w' ⟨rfl, q, os', hw⟩
      exact ⟨rfl, q, os', hw⟩
    · rintro e w' ⟨rfl, d', n, os, hp, hs, rfl⟩
      have hsz : d'.size = l.length := by simpa using hp.1
      rw [sortWorld_one]
      refine ⟨rfl, d'.toList, by simpa using perm_of_permIn (d := l.toArray) (by simpa using hp), ?_, hown.sortK finC_enc hsz, sortK_below hg hbase⟩
      exact pairwise_of_sortedIn (by rw [hsz]; simpa using hs)
/-- The numbers in order. -/
def OrdL (ids : List IDE) (q : List Nat) : Prop := q.Perm (List.range ids.length) ∧ SortedI (q.map fun i => ids.getD i ⟨0, 0⟩)
def OrderP (ids : List IDE) (w : World) (r : Ending) (w' : World) : Prop := ∃ (q : List Nat) (A : Option Addr) (c : Nat), r = .returned (.slice A ids.length c) ∧ Hid (OrdL ids q) ∧ Own I64.cells 1 3 w.heap.size w' (.slice A ids.length c) (q.map fun i : Nat => (i : Int)) ∧ Below w.heap.size w w'
theorem fin_range (n : Nat) : (List.finRange n).map (fun i => i.val) = List.range n := by
  apply List.ext_getElem
  · simp
  · intro j h1 h2; simp
theorem fin_int {n : Nat} (l : List (Fin n)) : l.map (fun i => (i.val : Int)) = (l.map fun i => i.val).map (fun i : Nat => (i : Int)) := by rw [List.map_map]; rfl
theorem range_getD (ids : List IDE) : ((List.range ids.length).map fun i => ids.getD i ⟨0, 0⟩) = ids := by
  apply List.ext_getElem
  · simp
  · intro j h1 h2
    rw [List.getElem_map, List.getElem_range]
    exact getD_of (List.getElem?_eq_getElem h2)
theorem ordL_perm {ids : List IDE} {q : List Nat} (h : q.Perm (List.range ids.length)) : (q.map fun i => ids.getD i ⟨0, 0⟩).Perm ids := by
  have := h.map fun i => ids.getD i ⟨0, 0⟩
  rwa [range_getD] at this
theorem ordL_of {ids : List IDE} (hn : ids.Nodup) {l : List (Fin ids.length)} (hp : l.Perm (List.finRange ids.length)) (hs : l.Pairwise (fun x y => Go.Proofs.ltOf (cmpF ids) y x = false)) : OrdL ids (l.map fun i => i.val) := by
  have h1 : (l.map fun i => i.val).Perm (List.range ids.length) := by have := hp.map fun i => i.val; rwa [fin_range] at this
  refine ⟨h1, sortedI_of (sortedJ ?_) ((ordL_perm h1).nodup_iff.2 hn)⟩
  rw [List.map_map, List.pairwise_map]
  exact hs
theorem OrdL.len {ids : List IDE} {q : List Nat} (h : OrdL ids q) : q.length = ids.length := by rw [h.1.length_eq, List.length_range]
theorem OrdL.lt {ids : List IDE} {q : List Nat} (h : OrdL ids q) {i : Nat} (hi : i ∈ q) : i < ids.length := List.mem_range.1 ((h.1.mem_iff).1 hi)
set_option maxRecDepth 100000 in
set_option maxHeartbeats 4000000 in
theorem order_tree (ids : List IDE) (hn : ids.Nodup) (hil : ids.length ≤ 10000) (iA : Option Addr) (iC : Nat) (v1 v2 : Value) (gt : Nat) (w : World) (ht : w.heap[gt]? = some (.cells #[.slice iA ids.length iC, v1, v2] 69 (0, 0))) (hS : SlAt IDE.cells 2 w iA ids) :
    Calls Try.prog 35 #[.pointer (some ⟨gt, 0, none⟩)] w (OrderP ids w) := by
  have XT := boxed ht
  go_enter Try.func35, Try.ntmps35
  go_upto_region 1 with fail
  refine wp_name ?_
  intro w1 hw1
  obtain ⟨B0, l1⟩ := box1 hw1
  clear hw1
  have l11 : Later w1 w1 := Later.refl
  have hb1 : Below w.heap.size w w1 := (l1 w).below
  go_upto_region 3 with fail
  go_loopw [3, 10] (fun ov kv wr => ∃ (k : Nat) (A : Option Addr) (c : Nat), k ≤ ids.length ∧ kv = .int .i64 k ∧ ov = .slice A k c ∧ Own I64.cells 1 3 w1.heap.size wr (.slice A k c) ((List.range k).map fun i : Nat => (i : Int)) ∧ Below w1.heap.size w1 wr) (fun _ kv _ => ids.length - (intOf kv).toNat)
  case atStart => exact ⟨0, none, 0, by omega, rfl, rfl, Own.nil, Below.refl _ _⟩
  case round =>
    obtain ⟨k, A, c, hk, rfl, rfl, ho, hbr⟩ := hrel
    have lr := later hbr
    have lrr : Later wr wr := Later.refl
    by_cases hlt : k < ids.length
    · have hki : (k : Int) < (ids.length : Int) := by omega
      have hR := hide (show ((List.range k).map fun i : Nat => (i : Int)) ++ [(k : Int)] = (List.range (k + 1)).map fun i : Nat => (i : Int) by rw [List.range_succ, List.map_append]; rfl)
      have hRl := hide (show ((List.range k).map fun i : Nat => (i : Int)).length = k by simp)
      obtain ⟨R, hRe⟩ : ∃ R, R = (List.range k).map fun i : Nat => (i : Int) := ⟨_, rfl⟩
      rw [← hRe] at ho hR hRl
      have hkR := hRl.out
      have hzr := hbr.size
      clear hRe
      subst hkR
      go_upto_region 6 with (at_builtin; refine wpList_app1 rfl (.tmp 13) (.tmp 15) rfl I64.enc intTO (R.length : Int) rfl rfl rfl (ho.later _) (by rfl) (by omega) (by unfold maxLen; omega) (Nat.le_trans hzr (show Below wr.heap.size wr _ from below_of).size) ?_; intro A5 c5 w6 ho5 hm5 hb5 hg5 hat5)
      go_wp2_with fail
      go_roundw
      case rel => exact ⟨R.length + 1, A5, c5, by omega, by go_num, rfl, by rw [← hR.out]; exact ho5, hbr.trans hb5⟩
      case measure => simp [intOf]; omega
    · have hkk : k = ids.length := by omega
      subst hkk
      rw [← fin_range, ← fin_int, ← own_fin] at ho
      have hso := sortOrd ids iA iC v1 v2 w.heap.size gt w1 wr (B0 w1).1 (blk_below ht hb1) (hS.below hb1) A c (List.finRange ids.length) hbr (by rw [List.length_finRange]; exact ho) (by rw [List.length_finRange]; omega)
      rw [List.length_finRange] at hso
      go_wp2_with (go_at_call 53; refine hso.mono ?_; rintro r w9 ⟨rfl, q, hp, hs, ho9, hb9⟩; have l9 := later (hbr.trans hb9))
      have hlen := hide hp.length_eq
      rw [own_fin, fin_int] at ho9
      go_ret
      exact ⟨q.map fun i => i.val, A, c, rfl, hide (ordL_of hn hp hs), ho9.mono hb1.size, below_of⟩
end Go.Proofs.Ytffnogjgnpbjlaa
