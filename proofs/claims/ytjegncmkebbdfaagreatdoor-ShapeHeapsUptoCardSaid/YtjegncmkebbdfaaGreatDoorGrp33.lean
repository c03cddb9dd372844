/-
  Small texts of this seat, put into one. Conditions stand in each theorem.
-/
import Derived.Test.YtjegncmkebbdfaaGreatDoorGrpA
import Derived.Shelf.SlSortCmp.InsertionK
import Derived.Test.YtjegncmkebbdfaaGreatDoorRows
import Derived.Deep.RegionHeld3
import Derived.Shelf.SlSortCmp.WholeK
import Derived.Ground.SlsfProg
import Derived.Test.YtjegncmkebbdfaaGreatDoorProg
import Derived.Test.YtjegncmkebbdfaaGreatDoorGrp30
import Derived.Test.YtjegncmkebbdfaaGreatDoorGrp32
import Derived.Shelf.SlSortCmp.NoneTotal
set_option linter.unusedSimpArgs false
set_option linter.unusedVariables false
namespace Go.Proofs.YtjegncmkebbdfaaGreatDoor
open Go.RowKit

/-- Blocks were made and draws taken, nothing else. -/
def Grown (w w' : World) : Prop := ∃ q os, w' = Go.Sort.grow (w.drewN q) os
section
variable {w w' w'' : World}
theorem Grown.refl (w : World) : Grown w w := ⟨0, #[], by rw [Go.Sort.grow_empty]; rfl⟩
theorem Grown.drew (h : Grown w w') : Grown w w'.drew := by
  obtain ⟨q, os, rfl⟩ := h
  exact ⟨q + 1, os, rfl⟩
theorem Grown.drewN (h : Grown w w') (n : Nat) : Grown w (w'.drewN n) := by
  obtain ⟨q, os, rfl⟩ := h
  exact ⟨q + n, os, by simp [World.drewN, Go.Sort.grow, Nat.add_assoc]⟩
theorem Grown.alloc (h : Grown w w') (o : Obj) : Grown w (w'.alloc o) := by
  obtain ⟨q, os, rfl⟩ := h
  exact ⟨q, os ++ #[o], by rw [Go.Sort.alloc_eq_grow, Go.Sort.grow_grow]⟩
theorem Grown.trans (h : Grown w w') (k : Grown w' w'') : Grown w w'' := by
  obtain ⟨q, os, rfl⟩ := h
  obtain ⟨q', os', rfl⟩ := k
  exact ⟨q + q', os ++ os', by simp [World.drewN, Go.Sort.grow, Nat.add_assoc, Array.append_assoc]⟩
theorem Grown.below (h : Grown w w') : Below w.heap.size w w' := by
  obtain ⟨q, os, rfl⟩ := h
  exact ⟨rfl, rfl, rfl, by simp [Go.Sort.grow, World.drewN], fun k hk => by simp [Go.Sort.grow, World.drewN, Array.getElem?_append, hk]⟩
end

section
variable {α : Type} [Inhabited α] {f : α → List Value} {s : Nat} {e : TypeId} {base : Nat} {w w' : World} {l : List α} {g n cap : Nat}
theorem Own.holdsK (h : Own f s e base w (.slice (some ⟨g, 0, none⟩) n cap) l) (he : Enc f s) : Go.Sort.HoldsK f s w g 0 l.toArray := fun j hj => by
  have hj' : j < l.length * s := by simpa using hj
  have hs := he.pos
  have hk : j / s < l.length := by rw [Nat.div_lt_iff_lt_mul hs]; exact hj'
  have hr : j % s < s := Nat.mod_lt _ hs
  have hje : j / s * s + j % s = j := by rw [Nat.mul_comm]; exact Nat.div_add_mod j s
  have hx := List.getElem?_eq_getElem hk
  have hr' : j % s < (f l[j / s]).length := by rw [he.len]; exact hr
  obtain ⟨u, hu⟩ : ∃ u, (f l[j / s])[j % s]? = some u := ⟨_, List.getElem?_eq_getElem hr'⟩
  have hc := h.cell he hx hu
  rw [hje] at hc
  have hg := Go.Sort.get_flatK f s l.toArray j (by simpa using hj')
  have e1 : (l.toArray[j / s]! : α) = l[j / s] := by simp [hk]
  have e2 : (f l[j / s])[j % s]! = u := by rw [List.getElem!_eq_getElem?_getD, hu]; rfl
  refine ⟨?_, ?_⟩
  · rw [Nat.zero_add, hc, id_eq, hg, e1, e2]
  · rw [Nat.zero_add]; exact h.free j
theorem flat_of_flatK (he : Enc f s) (d : Array α) : (Go.Sort.flatK f s d).toList = d.toList.flatMap f := by
  apply List.ext_getElem?
  intro j
  have hs := he.pos
  rcases Nat.lt_or_ge j (d.size * s) with hj | hj
  · have hk : j / s < d.toList.length := by rw [Nat.div_lt_iff_lt_mul hs]; simpa using hj
    have hr : j % s < s := Nat.mod_lt _ hs
    have hje : j / s * s + j % s = j := by rw [Nat.mul_comm]; exact Nat.div_add_mod j s
    have hx := List.getElem?_eq_getElem hk
    have h1 := he.flat_get d.toList (j / s) (j % s) _ hx hr
    rw [hje] at h1
    rw [h1, List.getElem?_eq_getElem (l := f d.toList[j / s]) (by rw [he.len]; exact hr), List.getElem?_eq_getElem (l := (Go.Sort.flatK f s d).toList) (by simpa using hj)]
    have := Go.Sort.get_flatK f s d j hj
    rw [getElem!_pos (Go.Sort.flatK f s d) j (by simpa using hj), getElem!_pos d (j / s) (by simpa using hk), getElem!_pos (f d[j / s]) (j % s) (by rw [he.len]; exact hr)] at this
    rw [Array.getElem_toList, this]
    rfl
  · rw [List.getElem?_eq_none (by simpa using hj), List.getElem?_eq_none (by rw [he.flat_length]; simpa using hj)]
theorem sortWorldK_heap (w : World) (g m : Nat) (d : Array α) (os : Array Obj) : (sortWorldK f s w g 0 m d os).heap = w.heap.modify g (Go.Sort.onCells (Go.Sort.putCells id 0 (Go.Sort.flatK f s d))) ++ os := rfl
/-- Behind the sort the call still owns the slice, with its list permuted. -/
theorem Own.sortK (h : Own f s e base w (.slice (some ⟨g, 0, none⟩) n cap) l) (he : Enc f s) {d : Array α} {m : Nat} {os : Array Obj} (hd : d.size = l.length) : Own f s e base (sortWorldK f s w g 0 m d os) (.slice (some ⟨g, 0, none⟩) n cap) d.toList := by
  have hn := h.len
  refine ⟨he.flat_length _, ?_⟩
  rw [Array.length_toList, hd]
  rcases h.2 with ⟨h0, _⟩ | ⟨g', cap', cur, hv, hb, hg, hc, hm, hsz, hx⟩
  · cases h0
  injection hv with h1 h2 h3
  injection h1 with h1
  injection h1 with h1
  subst h1 h2 h3
  have hlt : g < w.heap.size := (Array.getElem?_eq_some_iff.1 hg).1
  refine .inr ⟨g, cap, Go.Sort.putCells id 0 (Go.Sort.flatK f s d) cur, rfl, hb, ?_, hc, hm, ?_, ?_⟩
  · rw [sortWorldK_heap, Array.getElem?_append_left (by simpa using hlt), Array.getElem?_modify, if_pos rfl, hg]
    rfl
  · rw [← hsz]; simp [Go.Sort.putCells]
  · rw [← flat_of_flatK he]
    have hle : l.length * s ≤ cur.size := by rw [hsz]; exact Nat.mul_le_mul_right _ hc
    apply List.ext_getElem?
    intro j
    rw [List.getElem?_take]
    by_cases hj : j < l.length * s
    · rw [if_pos hj]
      have hj' : j < (Go.Sort.flatK f s d).size := by simp [hd, hj]
      have hjc : j < cur.size := by omega
      have e1 : (Go.Sort.putCells id 0 (Go.Sort.flatK f s d) cur).toList[j]? = some (Go.Sort.flatK f s d)[j]! := by
        simp [Go.Sort.putCells, Array.getElem?_mapIdx, hjc, hd, hj]
      rw [e1, Array.getElem?_toList, Array.getElem?_eq_getElem hj', getElem!_pos _ j hj']
    · rw [if_neg hj, List.getElem?_eq_none (by simp [hd]; omega)]
theorem sortK_below (hg : base ≤ g) (hw : base ≤ w.heap.size) {d : Array α} {m : Nat} {os : Array Obj} : Below base w (sortWorldK f s w g 0 m d os) :=
  ⟨rfl, rfl, rfl, by rw [sortWorldK_heap]; simp, fun k hk => by
    rw [sortWorldK_heap, Array.getElem?_append_left (by simp; omega), Array.getElem?_modify, if_neg (by omega)]⟩
theorem sortK_grownBy {d : Array α} {m : Nat} {os : Array Obj} : w.grownBy (sortWorldK f s w g 0 m d os) (some g) :=
  ⟨rfl, rfl, rfl, by rw [sortWorldK_heap]; simp, fun k hk hne => by
    rw [sortWorldK_heap, Array.getElem?_append_left (by simpa using hk), Array.getElem?_modify, if_neg (fun h => hne (by rw [h]))]⟩
end

/-! ### Plain: sorted lists -/
section
variable {α : Type}
theorem perm_of_permIn [Inhabited α] {d d' : Array α} (h : Go.Sort.PermIn 0 d.size d d') : d'.toList.Perm d.toList := by
  obtain ⟨hs, _, hp⟩ := h
  rw [show d'.extract 0 d.size = d' by rw [← hs]; simp, show d.extract 0 d.size = d by simp] at hp
  exact hp
theorem pairwise_of_sortedIn [Inhabited α] {lt : α → α → Bool} {d : Array α} (h : Go.Sort.SortedIn lt 0 d.size d) : d.toList.Pairwise (fun x y => lt y x = false) := by
  rw [List.pairwise_iff_getElem]
  intro i j hi hj hij
  have := h i j (Nat.zero_le _) hij (by simpa using hj)
  rw [getElem!_pos d i (by simpa using hi), getElem!_pos d j (by simpa using hj)] at this
  simpa using this
/-- Two sorted permutations of one list are equal, where the order parts whatever two elements. -/
theorem sorted_unique {r : α → α → Prop} (anti : ∀ x y, r x y → r y x → x = y) : ∀ {l l' : List α}, l.Perm l' → l.Pairwise r → l'.Pairwise r → l = l' := by
  intro l
  induction l with
  | nil => intro l' hp _ _; exact (List.nil_perm.1 hp).symm
  | cons x l ih =>
    intro l' hp h1 h2
    cases l' with
    | nil => exact absurd hp.length_eq (by simp)
    | cons y l' =>
      have hxy : x = y := by
        have hx : x ∈ y :: l' := hp.subset (List.mem_cons_self ..)
        have hy : y ∈ x :: l := hp.symm.subset (List.mem_cons_self ..)
        rcases List.mem_cons.1 hx with h | h
        · exact h
        · rcases List.mem_cons.1 hy with h' | h'
          · exact h'.symm
          · exact anti x y (List.rel_of_pairwise_cons h1 h') (List.rel_of_pairwise_cons h2 h)
      subst hxy
      rw [ih hp.cons_inv h1.tail h2.tail]
end
end Go.Proofs.YtjegncmkebbdfaaGreatDoor

namespace Go.Proofs.YtjegncmkebbdfaaGreatDoor
open Go.RowKit
/-- Grown, found by instances. -/
abbrev Gr (b w : World) : Prop := Nonempty (Grown b w)
section
variable {b w w' : World}
theorem Gr.out (h : Gr b w) : Grown b w := by obtain ⟨x⟩ := h; exact x
instance Gr.refl : Gr w w := ⟨Grown.refl _⟩
instance Gr.drew [h : Gr b w] : Gr b w.drew := ⟨h.out.drew⟩
instance Gr.drewN {n : Nat} [h : Gr b w] : Gr b (w.drewN n) := ⟨h.out.drewN n⟩
instance Gr.alloc {o : Obj} [h : Gr b w] : Gr b (w.alloc o) := ⟨h.out.alloc o⟩
theorem gr {W : World} (h : Grown W w') : ∀ b [Gr b W], Gr b w' := fun _ i => ⟨i.out.trans h⟩
theorem Gr.cell {a : Addr} {v : Value} (h : b.cell? a = some v) : ∀ u [Gr b u], u.cell? a = some v := fun _ i => cell_below h i.out.below
end
def cmpN (x y : Int) : Int := if x < y then -1 else if y < x then 1 else 0
set_option maxHeartbeats 1000000 in
theorem compare_any (x y : Int) (w : World) : Calls Tryz.prog 98 #[.int .i64 x, .int .i64 y] w fun r w' => r = .returned (.int .i64 (cmpN x y)) ∧ Grown w w' := by
  rcases Int.lt_trichotomy x y with h | h | h
  · have Hc := hide (show cmpN x y = -1 by unfold cmpN; rw [if_pos h])
    go_enter Tryz.func98, Tryz.ntmps98
    go_wp2
    all_goals go_ret
    all_goals exact ⟨ret_int Hc.out.symm, (inferInstance : Gr w _).out⟩
  · have Hc := hide (show cmpN x y = 0 by unfold cmpN; rw [if_neg (by omega), if_neg (by omega)])
    go_enter Tryz.func98, Tryz.ntmps98
    go_wp2
    all_goals go_ret
    all_goals exact ⟨ret_int Hc.out.symm, (inferInstance : Gr w _).out⟩
  · have Hc := hide (show cmpN x y = 1 by unfold cmpN; rw [if_neg (by omega), if_pos (by omega)])
    go_enter Tryz.func98, Tryz.ntmps98
    go_wp2
    all_goals go_ret
    all_goals exact ⟨ret_int Hc.out.symm, (inferInstance : Gr w _).out⟩
def orI (a b : Int) : Int := if a ≠ 0 then a else b
set_option maxHeartbeats 1000000 in
theorem or_any (g : Nat) (a b : Int) (w : World) (h0 : w.cell? ⟨g, 0, none⟩ = some (.int .i64 a)) (h1 : w.cell? ⟨g, 1, none⟩ = some (.int .i64 b)) :
    Calls Tryz.prog 97 #[.slice (some ⟨g, 0, none⟩) 2 2] w fun r w' => r = .returned (.int .i64 (orI a b)) ∧ Grown w w' := by
  have H0 := Gr.cell h0
  have H1 := Gr.cell h1
  go_enter Tryz.func97, Tryz.ntmps97
  go_wp2_with fail
  go_loopw [5, 8] (fun _ i wr => ∃ k : Nat, k ≤ 2 ∧ i = .int .i64 k ∧ (0 < k → a = 0) ∧ (1 < k → b = 0) ∧ Grown w wr) (fun _ i _ => 2 - (intOf i).toNat)
  case atStart => exact ⟨0, by omega, rfl, fun h => absurd h (by omega), fun h => absurd h (by omega), Grown.refl _⟩
  case round =>
    obtain ⟨k, hk, rfl, ha, hb, hgr⟩ := hrel
    have lr : ∀ b [Gr b w], Gr b wr := gr hgr
    rcases (by omega : k = 0 ∨ k = 1 ∨ k = 2) with rfl | rfl | rfl
    · by_cases h : a = 0
      · subst h
        go_wp2_with fail
        go_roundw
        case rel => exact ⟨1, by omega, by go_num, fun _ => by simp, fun h => absurd h (by omega), (inferInstance : Gr w _).out⟩
        case measure => simp [intOf]
      · have hn : (a != 0) = true := by simp [h]
        go_wp2_with fail
        go_ret
        exact ⟨ret_int (by simp [orI, h]), (inferInstance : Gr w _).out⟩
    · have ha0 := ha (by omega)
      by_cases h : b = 0
      · subst h
        go_wp2_with fail
        go_roundw
        case rel => exact ⟨2, by omega, by go_num, fun _ => by simpa using ha0, fun _ => by simp, (inferInstance : Gr w _).out⟩
        case measure => simp [intOf]
      · have hn : (b != 0) = true := by simp [h]
        have Ha := hide ha0
        clear ha0 ha
        go_wp2_with fail
        go_ret
        exact ⟨ret_int (by simp [orI, Ha.out]), (inferInstance : Gr w _).out⟩
    · have Ha := hide (ha (by omega))
      have Hb := hide (hb (by omega))
      clear ha hb
      go_wp2_with fail
      go_ret
      exact ⟨ret_int (by simp [orI, Ha.out, Hb.out]), (inferInstance : Gr w _).out⟩
end Go.Proofs.YtjegncmkebbdfaaGreatDoor

namespace Go.Proofs
open Go.Shelf
def Tryz.sortI_ren : Go.Shelf.Ren := ⟨fun | 6 => 49 | 15 => 59 | 14 => 96 | 28 => 113 | 29 => 114 | 20 => 144 | 21 => 145 | 22 => 146 | 23 => 147 | 24 => 148 | 25 => 149 | 26 => 150 | 27 => 151 | 46 => 170 | 47 => 161 | 48 => 162 | 49 => 171 | 50 => 172 | 57 => 183 | n => n, fun | 22 => 55 | 24 => 44 | 25 => 94 | 3 => 3 | 39 => 103 | 0 => 0 | 53 => 163 | 55 => 34 | 4 => 4 | 46 => 157 | 45 => 156 | 50 => 69 | 5 => 5 | 9 => 9 | 66 => 201 | 70 => 205 | 76 => 219 | 77 => 220 | n => n, fun | n => n⟩
theorem Tryz.sortI : Go.Proofs.SlLaysF0.n6 Tryz.prog Tryz.sortI_ren := {
  mixed := by kernel_rfl
  f6 := ⟨Tryz.f49.name, by decide, Tryz.func49.trans (congrArg some (by kernel_rfl))⟩
  f14 := ⟨Tryz.f96.name, by decide, Tryz.func96.trans (congrArg some (by kernel_rfl))⟩
  f15 := Tryz.func59.trans (congrArg some (by kernel_rfl))
  f20 := ⟨Tryz.f144.name, by decide, Tryz.func144.trans (congrArg some (by kernel_rfl))⟩
  f21 := ⟨Tryz.f145.name, by decide, Tryz.func145.trans (congrArg some (by kernel_rfl))⟩
  f22 := ⟨Tryz.f146.name, by decide, Tryz.func146.trans (congrArg some (by kernel_rfl))⟩
  f23 := ⟨Tryz.f147.name, by decide, Tryz.func147.trans (congrArg some (by kernel_rfl))⟩
  f24 := ⟨Tryz.f148.name, by decide, Tryz.func148.trans (congrArg some (by kernel_rfl))⟩
  f25 := ⟨Tryz.f149.name, by decide, Tryz.func149.trans (congrArg some (by kernel_rfl))⟩
  f26 := ⟨Tryz.f150.name, by decide, Tryz.func150.trans (congrArg some (by kernel_rfl))⟩
  f27 := ⟨Tryz.f151.name, by decide, Tryz.func151.trans (congrArg some (by kernel_rfl))⟩
  f28 := Tryz.func113.trans (congrArg some (by kernel_rfl))
  f29 := Tryz.func114.trans (congrArg some (by kernel_rfl))
  f46 := ⟨Tryz.f170.name, by decide, Tryz.func170.trans (congrArg some (by kernel_rfl))⟩
  f47 := Tryz.func161.trans (congrArg some (by kernel_rfl))
  f48 := Tryz.func162.trans (congrArg some (by kernel_rfl))
  f49 := ⟨Tryz.f171.name, by decide, Tryz.func171.trans (congrArg some (by kernel_rfl))⟩
  f50 := ⟨Tryz.f172.name, by decide, Tryz.func172.trans (congrArg some (by kernel_rfl))⟩
  f57 := ⟨Tryz.f183.name, by decide, Tryz.func183.trans (congrArg some (by kernel_rfl))⟩
  t0 := Tryz.underlying0
  a0 := Tryz.isAgg0
  z0 := Tryz.sizeOf0
  v0 := Tryz.zeroValue0
  t3 := Tryz.underlying3
  a3 := Tryz.isAgg3
  z3 := Tryz.sizeOf3
  v3 := Tryz.zeroValue3
  t4 := Tryz.underlying4
  a4 := Tryz.isAgg4
  z4 := Tryz.sizeOf4
  v4 := Tryz.zeroValue4
  t5 := Tryz.underlying5
  a5 := Tryz.isAgg5
  z5 := Tryz.sizeOf5
  v5 := Tryz.zeroValue5
  t9 := Tryz.underlying9
  a9 := Tryz.isAgg9
  z9 := Tryz.sizeOf9
  v9 := Tryz.zeroValue9
  t22 := Tryz.underlying55
  a22 := Tryz.isAgg55
  z22 := Tryz.sizeOf55
  v22 := Tryz.zeroValue55
  t25 := Tryz.underlying94
  a25 := Tryz.isAgg94
  z25 := Tryz.sizeOf94
  v25 := Tryz.zeroValue94
  t39 := Tryz.underlying103
  a39 := Tryz.isAgg103
  z39 := Tryz.sizeOf103
  v39 := Tryz.zeroValue103
  t45 := Tryz.underlying156
  a45 := Tryz.isAgg156
  z45 := Tryz.sizeOf156
  v45 := Tryz.zeroValue156
  t46 := Tryz.underlying157
  a46 := Tryz.isAgg157
  z46 := Tryz.sizeOf157
  v46 := Tryz.zeroValue157
  t50 := Tryz.underlying69
  a50 := Tryz.isAgg69
  z50 := Tryz.sizeOf69
  v50 := Tryz.zeroValue69
  t53 := Tryz.underlying163
  a53 := Tryz.isAgg163
  z53 := Tryz.sizeOf163
  v53 := Tryz.zeroValue163
  t55 := Tryz.underlying34
  a55 := Tryz.isAgg34
  z55 := Tryz.sizeOf34
  v55 := Tryz.zeroValue34
  t66 := Tryz.underlying201
  a66 := Tryz.isAgg201
  z66 := Tryz.sizeOf201
  v66 := Tryz.zeroValue201
  t70 := Tryz.underlying205
  a70 := Tryz.isAgg205
  z70 := Tryz.sizeOf205
  v70 := Tryz.zeroValue205
  t76 := Tryz.underlying219
  a76 := Tryz.isAgg219
  z76 := Tryz.sizeOf219
  v76 := Tryz.zeroValue219
  t77 := Tryz.underlying220
  a77 := Tryz.isAgg220
  z77 := Tryz.sizeOf220
  v77 := Tryz.zeroValue220 }
end Go.Proofs

namespace Go.Proofs.YtjegncmkebbdfaaGreatDoor
open Go.RowKit
instance : Inhabited IDE := ⟨⟨0, 0⟩⟩
def cmpJ (x y : IDE) : Int := if cmpN x.machine y.machine ≠ 0 then cmpN x.machine y.machine else cmpN x.serial y.serial
theorem cmpJ_lt (x y : IDE) : Go.Proofs.ltOf cmpJ x y = decide (x.machine < y.machine ∨ (x.machine = y.machine ∧ x.serial < y.serial)) := by
  unfold Go.Proofs.ltOf cmpJ cmpN
  by_cases h1 : x.machine < y.machine
  · simp [h1]
  · by_cases h2 : y.machine < x.machine
    · have : ¬ x.machine = y.machine := by omega
      simp [h1, h2, this]
    · have he : x.machine = y.machine := by omega
      by_cases h3 : x.serial < y.serial
      · simp [he, h3]
      · by_cases h4 : y.serial < x.serial <;> simp [he, h3, h4]
theorem cmpJ_swo : Go.Sort.SWO (Go.Proofs.ltOf cmpJ) := ⟨fun x => by simp [cmpJ_lt], fun x y z => by simp only [cmpJ_lt, decide_eq_true_eq]; omega, fun x y z => by simp only [cmpJ_lt, decide_eq_false_iff_not]; omega⟩
theorem IDE.one (x : IDE) : ∀ v ∈ x.cells, v.oneCell' = true := by
  intro v hv
  simp only [IDE.cells, List.mem_cons, List.not_mem_nil, or_false] at hv
  rcases hv with rfl | rfl <;> rfl
set_option maxHeartbeats 2000000 in
theorem order_any (x y : IDE) (w : World) :
    Calls Tryz.prog 50 #[.agg x.cells.toArray, .agg y.cells.toArray] w fun e w' => e = .returned (.int .i64 (cmpJ x y)) ∧ Grown w w' := by
  show Calls Tryz.prog 50 #[.agg #[.int .i64 x.machine, .int .i64 x.serial], .agg #[.int .i64 y.machine, .int .i64 y.serial]] w fun e w' => e = .returned (.int .i64 (cmpJ x y)) ∧ Grown w w'
  have Hc := hide (show cmpJ x y = orI (cmpN x.machine y.machine) (cmpN x.serial y.serial) from rfl)
  go_enter Tryz.func50, Tryz.ntmps50
  go_upto_region 1 with fail
  refine wp_name ?_
  intro w1 hw1
  have g1 : ∀ b [Gr b w], Gr b w1 := fun b i => by rw [← hw1]; infer_instance
  have c0 : ∀ u [Gr w1 u], u.cell? ⟨w.heap.size, 0, none⟩ = some (.int .i64 x.machine) := Gr.cell (by rw [← hw1]; simp [go_sem])
  have c1 : ∀ u [Gr w1 u], u.cell? ⟨w.heap.size, 1, none⟩ = some (.int .i64 x.serial) := Gr.cell (by rw [← hw1]; simp [go_sem])
  have c2 : ∀ u [Gr w1 u], u.cell? ⟨w.heap.size + 1, 0, none⟩ = some (.int .i64 y.machine) := Gr.cell (by rw [← hw1]; simp [go_sem])
  have c3 : ∀ u [Gr w1 u], u.cell? ⟨w.heap.size + 1, 1, none⟩ = some (.int .i64 y.serial) := Gr.cell (by rw [← hw1]; simp [go_sem])
  clear hw1
  go_region_held3 (fun w' => ∀ b [Gr b w1], Gr b w') ((intro b _; infer_instance))
    ((first
      | (go_at_call 98; refine (compare_any _ _ _).mono ?_; rintro r w2 ⟨rfl, hg2⟩; have g2 := gr hg2)
      | (go_at_call 97; refine (or_any _ (cmpN x.machine y.machine) (cmpN x.serial y.serial) _ ((blk_cell (heap_alloc_new _ _) 0).trans rfl) ((blk_cell (heap_alloc_new _ _) 1).trans rfl)).mono ?_; rintro r w4 ⟨rfl, hg4⟩; have g4 := gr hg4)))
  all_goals go_wp2_with fail
  all_goals go_ret
  all_goals exact ⟨ret_int Hc.out.symm, (inferInstance : Gr w _).out⟩
set_option maxHeartbeats 1000000 in
/-- slices.SortFunc over a slice that the call made itself (or nil): it stays the call's own, its list sorted. -/
theorem sortOrder (A : Option Addr) (c : Nat) (l : List IDE) (base : Nat) (w : World) (hown : Own IDE.cells 2 44 base w (.slice A l.length c) l) (hl : l.length ≤ 1000000000000) (hbase : base ≤ w.heap.size) :
    Calls Tryz.prog 49 #[.slice A l.length c, .func (.func 50) #[] #[]] w fun e w' => e = .returned (.tuple #[]) ∧ ∃ l', l'.Perm l ∧ l'.Pairwise (fun x y => Go.Proofs.ltOf cmpJ y x = false) ∧
      Own IDE.cells 2 44 base w' (.slice A l.length c) l' ∧ Below base w w' ∧ w.grownBy w' (Value.slice A l.length c).ownBlock := by
  cases l with
  | nil =>
    refine (AnyF.slices_SortFunc_none Tryz.sortI A c (.func (.func 50) #[] #[]) w).mono ?_
    rintro e w' ⟨rfl, rfl⟩
    exact ⟨rfl, [], List.Perm.refl _, List.Pairwise.nil, hown, Below.refl _ _, World.grownBy.refl _ _⟩
  | cons x0 l0 =>
    obtain ⟨l, hlx⟩ : ∃ l, l = x0 :: l0 := ⟨_, rfl⟩
    obtain ⟨g, rfl⟩ := hown.isSome (by simp)
    rw [← hlx] at hown hl ⊢
    refine (AnyQ.slices_SortFunc (enc := IDE.cells) Tryz.sortI 2 (fun w => Tryz.isAgg44 w) (fun w => Tryz.sizeOf44 w) IDE.enc.len IDE.one cmpJ cmpJ_swo 50 #[] g 0 c l.toArray w (fun args w => by kernel_rfl) ?_ (hown.holdsK IDE.enc) hown.lt (by simp; omega)).mono ?_
    · intro m os dk _ x y
      refine (order_any x y _).mono ?_
      rintro e w' ⟨rfl, q, os', hw⟩
      exact ⟨rfl, q, os', hw⟩
    · rintro e w' ⟨rfl, d', n, os, hp, hs, rfl⟩
      have hsz : d'.size = l.length := by simpa using hp.1
      have hg := hown.base_le
      refine ⟨rfl, d'.toList, by simpa using perm_of_permIn (d := l.toArray) (by simpa using hp), ?_, hown.sortK IDE.enc hsz, sortK_below hg hbase, sortK_grownBy⟩
      exact pairwise_of_sortedIn (by rw [hsz]; simpa using hs)
theorem sortedJ {l : List IDE} (h : l.Pairwise (fun x y => Go.Proofs.ltOf cmpJ y x = false)) : l.Pairwise (fun x y => ¬ ltI y x) := h.imp fun {a b} hab hl => by
  rw [cmpJ_lt, decide_eq_false_iff_not] at hab
  exact hab hl
/-- A sorted list without repetitions increases strictly. -/
theorem sortedI_of {l : List IDE} (h : l.Pairwise (fun x y => ¬ ltI y x)) (hn : l.Nodup) : SortedI l := by
  unfold SortedI
  refine List.Pairwise.imp (fun {a b} (hab : ¬ ltI b a ∧ a ≠ b) => ?_) (h.and hn)
  rcases ltI_total a b with h1 | h1 | h1
  · exact h1
  · exact absurd h1 hab.2
  · exact absurd h1 hab.1
end Go.Proofs.YtjegncmkebbdfaaGreatDoor
