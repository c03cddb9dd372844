/-
  The library's sort over a slice that the call made itself: what it asks, what it leaves; worlds that have only grown. Conditions stand in each theorem.
-/
import Derived.Test.YtjegncmkebbdfaaGreatDoorGrpA
import Derived.Shelf.SlSortCmp.InsertionK
set_option linter.unusedSimpArgs false
set_option linter.unusedVariables false
namespace Go.Proofs.YtjegncmkebbdfaaGreatDoor
open Go.RowKit

/-- Blocks were made and draws taken, nothing else. -/
def Grown (w w' : World) : Prop := ∃ q os, w' = Go.Sort.grow (w.drewN q) os
section
variable {w w' w'' : World}
theorem Grown.refl (w : World) : Grown w w := ⟨0, #[], by rw [Go.Sort.grow_empty]; rfl⟩
theorem Grown.drew (h : Grown w w') : Grown w w'.drew := by
  obtain ⟨q, os, rfl⟩ := h
  exact ⟨q + 1, os, rfl⟩
theorem Grown.drewN (h : Grown w w') (n : Nat) : Grown w (w'.drewN n) := by
  obtain ⟨q, os, rfl⟩ := h
  exact ⟨q + n, os, by simp [World.drewN, Go.Sort.grow, Nat.add_assoc]⟩
theorem Grown.alloc (h : Grown w w') (o : Obj) : Grown w (w'.alloc o) := by
  obtain ⟨q, os, rfl⟩ := h
  exact ⟨q, os ++ #[o], by rw [Go.Sort.alloc_eq_grow, Go.Sort.grow_grow]⟩
theorem Grown.trans (h : Grown w w') (k : Grown w' w'') : Grown w w'' := by
  obtain ⟨q, os, rfl⟩ := h
  obtain ⟨q', os', rfl⟩ := k
  exact ⟨q + q', os ++ os', by simp [World.drewN, Go.Sort.grow, Nat.add_assoc, Array.append_assoc]⟩
theorem Grown.below (h : Grown w w') : Below w.heap.size w w' := by
  obtain ⟨q, os, rfl⟩ := h
  exact ⟨rfl, rfl, rfl, by simp [Go.Sort.grow, World.drewN], fun k hk => by simp [Go.Sort.grow, World.drewN, Array.getElem?_append, hk]⟩
end

section
variable {α : Type} [Inhabited α] {f : α → List Value} {s : Nat} {e : TypeId} {base : Nat} {w w' : World} {l : List α} {g n cap : Nat}
theorem Own.holdsK (h : Own f s e base w (.slice (some ⟨g, 0, none⟩) n cap) l) (he : Enc f s) : Go.Sort.HoldsK f s w g 0 l.toArray := fun j hj => by
  have hj' : j < l.length * s := by simpa using hj
  have hs := he.pos
  have hk : j / s < l.length := by rw [Nat.div_lt_iff_lt_mul hs]; exact hj'
  have hr : j % s < s := Nat.mod_lt _ hs
  have hje : j / s * s + j % s = j := by rw [Nat.mul_comm]; exact Nat.div_add_mod j s
  have hx := List.getElem?_eq_getElem hk
  have hr' : j % s < (f l[j / s]).length := by rw [he.len]; exact hr
  obtain ⟨u, hu⟩ : ∃ u, (f l[j / s])[j % s]? = some u := ⟨_, List.getElem?_eq_getElem hr'⟩
  have hc := h.cell he hx hu
  rw [hje] at hc
  have hg := Go.Sort.get_flatK f s l.toArray j (by simpa using hj')
  have e1 : (l.toArray[j / s]! : α) = l[j / s] := by simp [hk]
  have e2 : (f l[j / s])[j % s]! = u := by rw [List.getElem!_eq_getElem?_getD, hu]; rfl
  refine ⟨?_, ?_⟩
  · rw [Nat.zero_add, hc, id_eq, hg, e1, e2]
  · rw [Nat.zero_add]; exact h.free j
theorem flat_of_flatK (he : Enc f s) (d : Array α) : (Go.Sort.flatK f s d).toList = d.toList.flatMap f := by
  apply List.ext_getElem?
  intro j
  have hs := he.pos
  rcases Nat.lt_or_ge j (d.size * s) with hj | hj
  · have hk : j / s < d.toList.length := by rw [Nat.div_lt_iff_lt_mul hs]; simpa using hj
    have hr : j % s < s := Nat.mod_lt _ hs
    have hje : j / s * s + j % s = j := by rw [Nat.mul_comm]; exact Nat.div_add_mod j s
    have hx := List.getElem?_eq_getElem hk
    have h1 := he.flat_get d.toList (j / s) (j % s) _ hx hr
    rw [hje] at h1
    rw [h1, List.getElem?_eq_getElem (l := f d.toList[j / s]) (by rw [he.len]; exact hr), List.getElem?_eq_getElem (l := (Go.Sort.flatK f s d).toList) (by simpa using hj)]
    have := Go.Sort.get_flatK f s d j hj
    rw [getElem!_pos (Go.Sort.flatK f s d) j (by simpa using hj), getElem!_pos d (j / s) (by simpa using hk), getElem!_pos (f d[j / s]) (j % s) (by rw [he.len]; exact hr)] at this
    rw [Array.getElem_toList, this]
    rfl
  · rw [List.getElem?_eq_none (by simpa using hj), List.getElem?_eq_none (by rw [he.flat_length]; simpa using hj)]
theorem sortWorldK_heap (w : World) (g m : Nat) (d : Array α) (os : Array Obj) : (sortWorldK f s w g 0 m d os).heap = w.heap.modify g (Go.Sort.onCells (Go.Sort.putCells id 0 (Go.Sort.flatK f s d))) ++ os := rfl
/-- Behind the sort the call still owns the slice, with its list permuted. -/
theorem Own.sortK (h : Own f s e base w (.slice (some ⟨g, 0, none⟩) n cap) l) (he : Enc f s) {d : Array α} {m : Nat} {os : Array Obj} (hd : d.size = l.length) : Own f s e base (sortWorldK f s w g 0 m d os) (.slice (some ⟨g, 0, none⟩) n cap) d.toList := by
  have hn := h.len
  refine ⟨he.flat_length _, ?_⟩
  rw [Array.length_toList, hd]
  rcases h.2 with ⟨h0, _⟩ | ⟨g', cap', cur, hv, hb, hg, hc, hm, hsz, hx⟩
  · cases h0
  injection hv with h1 h2 h3
  injection h1 with h1
  injection h1 with h1
  subst h1 h2 h3
  have hlt : g < w.heap.size := (Array.getElem?_eq_some_iff.1 hg).1
  refine .inr ⟨g, cap, Go.Sort.putCells id 0 (Go.Sort.flatK f s d) cur, rfl, hb, ?_, hc, hm, ?_, ?_⟩
  · rw [sortWorldK_heap, Array.getElem?_append_left (by simpa using hlt), Array.getElem?_modify, if_pos rfl, hg]
    rfl
  · rw [← hsz]; simp [Go.Sort.putCells]
  · rw [← flat_of_flatK he]
    have hle : l.length * s ≤ cur.size := by rw [hsz]; exact Nat.mul_le_mul_right _ hc
    apply List.ext_getElem?
    intro j
    rw [List.getElem?_take]
    by_cases hj : j < l.length * s
    · rw [if_pos hj]
      have hj' : j < (Go.Sort.flatK f s d).size := by simp [hd, hj]
      have hjc : j < cur.size := by omega
      have e1 : (Go.Sort.putCells id 0 (Go.Sort.flatK f s d) cur).toList[j]? = some (Go.Sort.flatK f s d)[j]! := by
        simp [Go.Sort.putCells, Array.getElem?_mapIdx, hjc, hd, hj]
      rw [e1, Array.getElem?_toList, Array.getElem?_eq_getElem hj', getElem!_pos _ j hj']
    · rw [if_neg hj, List.getElem?_eq_none (by simp [hd]; omega)]
theorem sortK_below (hg : base ≤ g) (hw : base ≤ w.heap.size) {d : Array α} {m : Nat} {os : Array Obj} : Below base w (sortWorldK f s w g 0 m d os) :=
  ⟨rfl, rfl, rfl, by rw [sortWorldK_heap]; simp, fun k hk => by
    rw [sortWorldK_heap, Array.getElem?_append_left (by simp; omega), Array.getElem?_modify, if_neg (by omega)]⟩
theorem sortK_grownBy {d : Array α} {m : Nat} {os : Array Obj} : w.grownBy (sortWorldK f s w g 0 m d os) (some g) :=
  ⟨rfl, rfl, rfl, by rw [sortWorldK_heap]; simp, fun k hk hne => by
    rw [sortWorldK_heap, Array.getElem?_append_left (by simpa using hk), Array.getElem?_modify, if_neg (fun h => hne (by rw [h]))]⟩
end

/-! ### Plain: sorted lists -/
section
variable {α : Type}
theorem perm_of_permIn [Inhabited α] {d d' : Array α} (h : Go.Sort.PermIn 0 d.size d d') : d'.toList.Perm d.toList := by
  obtain ⟨hs, _, hp⟩ := h
  rw [show d'.extract 0 d.size = d' by rw [← hs]; simp, show d.extract 0 d.size = d by simp] at hp
  exact hp
theorem pairwise_of_sortedIn [Inhabited α] {lt : α → α → Bool} {d : Array α} (h : Go.Sort.SortedIn lt 0 d.size d) : d.toList.Pairwise (fun x y => lt y x = false) := by
  rw [List.pairwise_iff_getElem]
  intro i j hi hj hij
  have := h i j (Nat.zero_le _) hij (by simpa using hj)
  rw [getElem!_pos d i (by simpa using hi), getElem!_pos d j (by simpa using hj)] at this
  simpa using this
/-- Two sorted permutations of one list are equal, where the order parts whatever two elements. -/
theorem sorted_unique {r : α → α → Prop} (anti : ∀ x y, r x y → r y x → x = y) : ∀ {l l' : List α}, l.Perm l' → l.Pairwise r → l'.Pairwise r → l = l' := by
  intro l
  induction l with
  | nil => intro l' hp _ _; exact (List.nil_perm.1 hp).symm
  | cons x l ih =>
    intro l' hp h1 h2
    cases l' with
    | nil => exact absurd hp.length_eq (by simp)
    | cons y l' =>
      have hxy : x = y := by
        have hx : x ∈ y :: l' := hp.subset (List.mem_cons_self ..)
        have hy : y ∈ x :: l := hp.symm.subset (List.mem_cons_self ..)
        rcases List.mem_cons.1 hx with h | h
        · exact h
        · rcases List.mem_cons.1 hy with h' | h'
          · exact h'.symm
          · exact anti x y (List.rel_of_pairwise_cons h1 h') (List.rel_of_pairwise_cons h2 h)
      subst hxy
      rw [ih hp.cons_inv h1.tail h2.tail]
end
end Go.Proofs.YtjegncmkebbdfaaGreatDoor
