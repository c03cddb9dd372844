/-
  Contracts of the functions of this seat that each theorem names: what a call returns, and that it writes nothing that was there before. The conditions stand in each theorem.
-/
import Derived.Test.YtjegncmkebbdfaaGreatDoorF16SUn2
import Derived.Test.YtjegncmkebbdfaaGreatDoorF16Closed
set_option linter.unusedSimpArgs false
set_option linter.unusedVariables false
namespace Go.Proofs.YtjegncmkebbdfaaGreatDoor
open Go.RowKit
attribute [local go_sem] Oper.semAt_some
attribute [local simp] heap_drew
theorem mergeN_mem {a b m : NodeC} (h : mergeN a b = some m) : m = a ∨ m = b := by
  unfold mergeN at h
  split at h
  · split at h
    · injection h with h; exact .inl h.symm
    · cases h
  · split at h
    · injection h with h
      split at h
      · exact .inr h.symm
      · exact .inl h.symm
    · cases h
theorem putN_mem {l l' : List NodeC} {n x : NodeC} (h : putN l n = some l') (hx : x ∈ l') : x ∈ l ∨ x = n := by
  have hins : x ∈ l.take (posN l n.id) ++ [n] ++ l.drop (posN l n.id) → x ∈ l ∨ x = n := fun hx => by
    rcases List.mem_append.1 hx with hx | hx
    · rcases List.mem_append.1 hx with hx | hx
      · exact .inl (List.mem_of_mem_take hx)
      · exact .inr (List.mem_singleton.1 hx)
    · exact .inl (List.mem_of_mem_drop hx)
  unfold putN at h
  split at h
  · next a ha =>
    split at h
    · obtain ⟨m, hm, rfl⟩ := Option.map_eq_some_iff.1 h
      rcases List.mem_or_eq_of_mem_set hx with hx | rfl
      · exact .inl hx
      · rcases mergeN_mem hm with rfl | rfl
        · exact .inl (List.mem_of_getElem? ha)
        · exact .inr rfl
    · injection h with h; subst h; exact hins hx
  · injection h with h; subst h; exact hins hx
theorem putAll_mem {ns : List NodeC} : ∀ {acc q : List NodeC} {x : NodeC}, putAll acc ns = some q → x ∈ q → x ∈ acc ∨ x ∈ ns := by
  induction ns with
  | nil => intro acc q x h hx; unfold putAll at h; injection h with h; subst h; exact .inl hx
  | cons n ns ih =>
    intro acc q x h hx
    unfold putAll at h
    split at h
    · cases h
    · next acc' ha =>
      rcases ih h hx with h1 | h1
      · rcases putN_mem ha h1 with h2 | rfl
        · exact .inl h2
        · exact .inr (List.mem_cons_self)
      · exact .inr (List.mem_cons_of_mem _ h1)
theorem unionC_bnd {ls : List (List NodeC)} {M N : Nat} (hN : ls.flatten.length ≤ N) (hM : ∀ L ∈ ls, ∀ x ∈ L, x.fields.length ≤ M) : (unionC ls).1.length ≤ N ∧ ∀ x ∈ (unionC ls).1, x.fields.length ≤ M := by
  unfold unionC
  split
  · split
    · next q hq =>
      refine ⟨by have := (putAll_sorted nil_sorted hq).2; simp only [List.length_nil] at this; show q.length ≤ N; omega, fun x hx => ?_⟩
      rcases putAll_mem hq hx with h | h
      · cases h
      · obtain ⟨L, hL, hx⟩ := List.mem_flatten.1 h
        exact hM L hL x hx
    · exact ⟨by simp, by simp⟩
  · exact ⟨by simp, by simp⟩
def UnionQ (p : List NodeC × Nat) (w : World) (r : Ending) (w' : World) : Prop := ∃ o OA OC, Hid (conL o = p.1) ∧ r = .returned (.tuple #[.agg #[.slice OA o.length OC], .int .i64 (p.2 : Nat)]) ∧ NodesAt w' OA o ∧ (o.length ≤ 10000 ∧ ∀ n ∈ o, n.fields.length ≤ 1000000) ∧ Below w.heap.size w w'
theorem unionQ_any (gs : List GrE) (g m : Nat) (w : World) (hm : m = gs.length) (hS : SlAt GrE.cells 1 w (some ⟨g, 0, none⟩) gs) (hN : ∀ x ∈ gs, NodesAt w x.A x.l) (hl : gs.length ≤ 1000000000) (ht : (conGs gs).flatten.length ≤ 10000) (hb : ∀ x ∈ gs, x.l.length ≤ 10000 ∧ ∀ n ∈ x.l, n.fields.length ≤ 1000000) :
    Calls Tryz.prog 8 #[.slice (some ⟨g, 0, none⟩) m m] w (UnionQ (unionC (conGs gs)) w) := by
  subst hm
  refine (unionS_any (some ⟨g, 0, none⟩) gs.length gs w ⟨hS, hN⟩ hl ht (fun x hx => by have := (hb x hx).1; omega) (fun x hx => (hb x hx).2)).mono ?_
  rintro r w' ⟨o, OA, OC, ho, hr, hg, hb'⟩
  obtain ⟨b1, b2⟩ := unionC_bnd (M := 1000000) ht (fun L hL x hx => by
    obtain ⟨y, hy, rfl⟩ := List.mem_map.1 hL
    obtain ⟨n, hn, rfl⟩ := List.mem_map.1 hx
    exact (hb y hy).2 n hn)
  rw [← ho.out] at b1 b2
  refine ⟨o, OA, OC, ho, hr, hg.nodes, ⟨by unfold conL at b1; rw [List.length_map] at b1; exact b1, fun n hn => b2 n.con (List.mem_map.2 ⟨n, hn, rfl⟩)⟩, hb'⟩
theorem union_two (A : Option Addr) (c : Nat) (a : List NodeE) (B : Option Addr) (d : Nat) (b : List NodeE) (g : Nat) (w : World) (hg : w.heap[g]? = some (.cells #[.slice A a.length c, .slice B b.length d] 27 (0, 0))) (H : NodesAt w A a) (K : NodesAt w B b) (ha : a.length ≤ 200 ∧ ∀ n ∈ a, n.fields.length ≤ 200) (hb : b.length ≤ 200 ∧ ∀ n ∈ b, n.fields.length ≤ 200) :
    Calls Tryz.prog 8 #[.slice (some ⟨g, 0, none⟩) 2 2] w (UnionQ (unionC [conL a, conL b]) w) := by
  have hla : (conL a).length = a.length := by unfold conL; rw [List.length_map]
  have hlb : (conL b).length = b.length := by unfold conL; rw [List.length_map]
  exact unionQ_any [⟨A, c, a⟩, ⟨B, d, b⟩] g 2 w rfl (blk_slAt GrE.enc (fr := (0, 0)) (e := 27) hg _ rfl) (fun x hx => by
    simp only [List.mem_cons, List.not_mem_nil, or_false] at hx
    rcases hx with rfl | rfl
    · exact H
    · exact K) (by simp) (by simp [conGs, hla, hlb]; omega) (fun x hx => by
    simp only [List.mem_cons, List.not_mem_nil, or_false] at hx
    rcases hx with rfl | rfl
    · exact ⟨by dsimp only; omega, fun n hn => by have := ha.2 n hn; omega⟩
    · exact ⟨by dsimp only; omega, fun n hn => by have := hb.2 n hn; omega⟩)
theorem union_three (A : Option Addr) (c : Nat) (a : List NodeE) (B : Option Addr) (d : Nat) (b : List NodeE) (g : Nat) (w : World) (hg : w.heap[g]? = some (.cells #[.slice B b.length d, .slice A a.length c, .slice B b.length d] 27 (0, 0))) (H : NodesAt w A a) (K : NodesAt w B b) (ha : a.length ≤ 200 ∧ ∀ n ∈ a, n.fields.length ≤ 200) (hb : b.length ≤ 200 ∧ ∀ n ∈ b, n.fields.length ≤ 200) :
    Calls Tryz.prog 8 #[.slice (some ⟨g, 0, none⟩) 3 3] w (UnionQ (unionC [conL a, conL b]) w) := by
  have hla : (conL a).length = a.length := by unfold conL; rw [List.length_map]
  have hlb : (conL b).length = b.length := by unfold conL; rw [List.length_map]
  rw [unionC_comm]
  exact unionQ_any [⟨B, d, b⟩, ⟨A, c, a⟩, ⟨B, d, b⟩] g 3 w rfl (blk_slAt GrE.enc (fr := (0, 0)) (e := 27) hg _ rfl) (fun x hx => by
    simp only [List.mem_cons, List.not_mem_nil, or_false] at hx
    rcases hx with rfl | rfl | rfl
    · exact K
    · exact H
    · exact K) (by simp) (by simp [conGs, hla, hlb]; omega) (fun x hx => by
    simp only [List.mem_cons, List.not_mem_nil, or_false] at hx
    rcases hx with rfl | rfl | rfl
    · exact ⟨by dsimp only; omega, fun n hn => by have := hb.2 n hn; omega⟩
    · exact ⟨by dsimp only; omega, fun n hn => by have := ha.2 n hn; omega⟩
    · exact ⟨by dsimp only; omega, fun n hn => by have := hb.2 n hn; omega⟩)
end Go.Proofs.YtjegncmkebbdfaaGreatDoor
