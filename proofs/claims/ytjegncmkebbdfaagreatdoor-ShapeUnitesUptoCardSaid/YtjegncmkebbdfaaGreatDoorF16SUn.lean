/-
  Contracts of the functions of this seat that each theorem names: what a call returns, and that it writes nothing that was there before. The conditions stand in each theorem.
-/
import Derived.Test.YtjegncmkebbdfaaGreatDoorF16URel
import Derived.Test.YtjegncmkebbdfaaGreatDoorF16SEq
import Derived.Test.YtjegncmkebbdfaaGreatDoorF16Valid
import Derived.Test.YtjegncmkebbdfaaGreatDoorF16Restr
import Derived.Test.YtjegncmkebbdfaaGreatDoorTabWalk
import Derived.Test.YtjegncmkebbdfaaGreatDoorSortLib
import Derived.Test.YtjegncmkebbdfaaGreatDoorLaysortV
import Derived.Shelf.SlSortCmp.NoneTotal
set_option linter.unusedSimpArgs false
set_option linter.unusedVariables false
namespace Go.Proofs.YtjegncmkebbdfaaGreatDoor
open Go.RowKit
attribute [local go_sem] Oper.semAt_some
attribute [local simp] heap_drew
def conGs (gs : List GrE) : List (List NodeC) := gs.map fun g => conL g.l
theorem conGs_take {gs : List GrE} {j : Nat} {g : GrE} (h : gs[j]? = some g) : (conGs (gs.take (j + 1))).flatten = (conGs (gs.take j)).flatten ++ conL g.l := by
  unfold conGs
  rw [List.take_add_one, h]
  simp
theorem conL_take {l : List NodeE} {k : Nat} {n : NodeE} (h : l[k]? = some n) : (conL l).take (k + 1) = (conL l).take k ++ [n.con] := by
  rw [List.take_add_one]
  unfold conL
  rw [List.getElem?_map, h]
  rfl
theorem flat_split {gs : List GrE} {j k : Nat} {g : GrE} {n : NodeE} (h : gs[j]? = some g) (hn : g.l[k]? = some n) : ∃ rest, (conGs gs).flatten = ((conGs (gs.take j)).flatten ++ (conL g.l).take k) ++ n.con :: rest := by
  refine ⟨(conL g.l).drop (k + 1) ++ (conGs (gs.drop (j + 1))).flatten, ?_⟩
  have h1 : (conGs gs).flatten = (conGs (gs.take (j + 1))).flatten ++ (conGs (gs.drop (j + 1))).flatten := by
    unfold conGs
    rw [← List.flatten_append, ← List.map_append, List.take_append_drop]
  rw [h1, conGs_take h]
  have h2 : conL g.l = (conL g.l).take k ++ n.con :: (conL g.l).drop (k + 1) := by
    have := List.take_append_drop (k + 1) (conL g.l)
    rw [conL_take hn] at this
    conv => lhs; rw [← this]
    simp
  conv => lhs; rw [h2]
  simp [List.take_append, List.drop_append]
theorem unionC_none {gs : List GrE} (hv : ∀ g ∈ gs, valid16B (conL g.l) = true) (h : putAll [] (conGs gs).flatten = none) : unionC (conGs gs) = ([], 9) := by
  unfold unionC
  rw [if_pos (List.all_eq_true.2 fun x hx => by obtain ⟨g, hg, rfl⟩ := List.mem_map.1 hx; exact hv g hg), h]
theorem unionC_some {gs : List GrE} {q : List NodeC} (hv : ∀ g ∈ gs, valid16B (conL g.l) = true) (h : putAll [] (conGs gs).flatten = some q) : unionC (conGs gs) = (q, 0) := by
  unfold unionC
  rw [if_pos (List.all_eq_true.2 fun x hx => by obtain ⟨g, hg, rfl⟩ := List.mem_map.1 hx; exact hv g hg), h]
theorem pick_snoc {α : Type} {l : List α} {idxs : List Nat} {i : Nat} {x : α} (hx : l[i]? = some x) : pickL l (idxs ++ [i]) = pickL l idxs ++ [x] := by
  unfold pickL; rw [List.filterMap_append]; simp [hx]
theorem pick_len {α : Type} {l : List α} {idxs : List Nat} : (pickL l idxs).length ≤ idxs.length := by
  unfold pickL; exact List.length_filterMap_le _ _
theorem NodeE.one (x : NodeE) : ∀ v ∈ x.cells, v.oneCell' = true := by
  intro v hv
  simp only [NodeE.cells, List.mem_cons, List.not_mem_nil, or_false] at hv
  rcases hv with rfl | rfl | rfl | rfl | rfl <;> rfl
def cmpV (x y : NodeE) : Int := cmpJ x.id y.id
theorem cmpV_lt (x y : NodeE) : Go.Proofs.ltOf cmpV x y = Go.Proofs.ltOf cmpJ x.id y.id := rfl
theorem cmpV_swo : Go.Sort.SWO (Go.Proofs.ltOf cmpV) := ⟨fun x => cmpJ_swo.1 x.id, fun x y z => cmpJ_swo.2 x.id y.id z.id, fun x y z => cmpJ_swo.3 x.id y.id z.id⟩
instance inhNodeU : Inhabited NodeE := ⟨⟨0, 0, 0, 0, none, 0, []⟩⟩
set_option maxHeartbeats 1000000 in
/-- slices.SortFunc over a slice that the call made itself (or nil): it stays the call's own, its list sorted. -/
theorem sortNodes (A : Option Addr) (c : Nat) (l : List NodeE) (base : Nat) (w : World) (hown : Own NodeE.cells 5 51 base w (.slice A l.length c) l) (hl : l.length ≤ 1000000000000) (hbase : base ≤ w.heap.size) :
    Calls Tryz.prog 25 #[.slice A l.length c, .func (.func 26) #[] #[]] w fun e w' => e = .returned (.tuple #[]) ∧ ∃ l', l'.Perm l ∧ l'.Pairwise (fun x y => Go.Proofs.ltOf cmpV y x = false) ∧
      Own NodeE.cells 5 51 base w' (.slice A l.length c) l' ∧ Below base w w' ∧ w.grownBy w' (Value.slice A l.length c).ownBlock := by
  cases l with
  | nil =>
    refine (AnyF.slices_SortFunc_none Tryz.sortV A c (.func (.func 26) #[] #[]) w).mono ?_
    rintro e w' ⟨rfl, rfl⟩
    exact ⟨rfl, [], List.Perm.refl _, List.Pairwise.nil, hown, Below.refl _ _, World.grownBy.refl _ _⟩
  | cons x0 l0 =>
    obtain ⟨l, hlx⟩ : ∃ l, l = x0 :: l0 := ⟨_, rfl⟩
    obtain ⟨g, rfl⟩ := hown.isSome (by simp)
    rw [← hlx] at hown hl ⊢
    refine (AnyQ.slices_SortFunc (enc := NodeE.cells) Tryz.sortV 5 (fun w => Tryz.isAgg51 w) (fun w => Tryz.sizeOf51 w) NodeE.enc.len NodeE.one cmpV cmpV_swo 26 #[] g 0 c l.toArray w (fun args w => by kernel_rfl) ?_ (hown.holdsK NodeE.enc) hown.lt (by simp; omega)).mono ?_
    · intro m os dk _ x y
      refine (compareN_any x y _).mono ?_
      rintro e w' ⟨rfl, q, os', hw⟩
      exact ⟨rfl, q, os', hw⟩
    · rintro e w' ⟨rfl, d', n, os, hp, hs, rfl⟩
      have hsz : d'.size = l.length := by simpa using hp.1
      have hg := hown.base_le
      refine ⟨rfl, d'.toList, by simpa using perm_of_permIn (d := l.toArray) (by simpa using hp), ?_, hown.sortK NodeE.enc hsz, sortK_below hg hbase, sortK_grownBy⟩
      exact pairwise_of_sortedIn (by rw [hsz]; simpa using hs)
theorem zeroNode (w : World) : (zeroValue 51).run Tryz.prog w = .ok (.agg #[.int .i64 0, .int .i64 0, .int .i64 0, .int .i64 0, .slice none 0 0]) w := by kernel_rfl
theorem sorted_of {l : List NodeE} (h : l.Pairwise (fun x y => Go.Proofs.ltOf cmpV y x = false)) (hn : (l.map NodeE.id).Nodup) : SortedN (conL l) := by
  have h1 : (l.map NodeE.id).Pairwise (fun x y => Go.Proofs.ltOf cmpJ y x = false) := List.pairwise_map.2 h
  have h2 := sortedI_of (sortedJ h1) hn
  have h3 : ids (conL l) = l.map NodeE.id := by unfold ids conL; rw [List.map_map]; rfl
  unfold SortedN
  rw [h3]
  exact h2
end Go.Proofs.YtjegncmkebbdfaaGreatDoor
