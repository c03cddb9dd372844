/-
  Contracts of the functions of this seat that each theorem names: what a call returns, and that it writes nothing that was there before. The conditions stand in each theorem.
-/
import Derived.Test.YtjegncmkebbdfaaGreatDoorF16Awk
import Derived.Test.YtjegncmkebbdfaaGreatDoorF16Few
import Derived.Test.YtjegncmkebbdfaaGreatDoorGrp32
import Derived.Test.YtjegncmkebbdfaaGreatDoorG16Plain
set_option linter.unusedSimpArgs false
set_option linter.unusedVariables false
namespace Go.Proofs.YtjegncmkebbdfaaGreatDoor
open Go.RowKit
attribute [local go_sem ↓] run_eql_id run_neq_id
attribute [local go_sem] Instr.makeFunc
attribute [local simp] heap_drew
theorem few_one (A : Option Addr) (c : Nat) (l : List NodeE) (g : Nat) (w : World) (hg : w.heap[g]? = some (.cells #[.slice A l.length c] 27 (0, 0))) (H : NodesAt w A l) (ht : cntG l ≤ 1000000000) :
    Calls Tryz.prog 6 #[.slice (some ⟨g, 0, none⟩) 1 1] w fun r w' => r = .returned (.bool (decide (cntG l ≤ 200))) ∧ Below w.heap.size w w' := by
  have hS : SlAt GrE.cells 1 w (some ⟨g, 0, none⟩) [⟨A, c, l⟩] := blk_slAt GrE.enc (fr := (0, 0)) (e := 27) hg _ rfl
  have h := few_any (some ⟨g, 0, none⟩) 1 [⟨A, c, l⟩] w ⟨hS, fun x hx => by rw [List.mem_singleton] at hx; subst hx; exact H⟩ (by simp) (by simp [totG]; omega)
  have e : totG [⟨A, c, l⟩] = cntG l := by simp [totG]
  rw [e] at h
  exact h
theorem few_two (A : Option Addr) (c : Nat) (l : List NodeE) (B : Option Addr) (d : Nat) (m : List NodeE) (g : Nat) (w : World) (hg : w.heap[g]? = some (.cells #[.slice A l.length c, .slice B m.length d] 27 (0, 0))) (H : NodesAt w A l) (K : NodesAt w B m) (ht : cntG l + cntG m ≤ 1000000000) :
    Calls Tryz.prog 6 #[.slice (some ⟨g, 0, none⟩) 2 2] w fun r w' => r = .returned (.bool (decide (cntG l + cntG m ≤ 200))) ∧ Below w.heap.size w w' := by
  have hS : SlAt GrE.cells 1 w (some ⟨g, 0, none⟩) [⟨A, c, l⟩, ⟨B, d, m⟩] := blk_slAt GrE.enc (fr := (0, 0)) (e := 27) hg _ rfl
  have h := few_any (some ⟨g, 0, none⟩) 2 [⟨A, c, l⟩, ⟨B, d, m⟩] w ⟨hS, fun x hx => by
    rcases List.mem_cons.1 hx with rfl | hx
    · exact H
    · rw [List.mem_singleton] at hx; subst hx; exact K⟩ (by simp) (by simp [totG]; omega)
  have e : totG [⟨A, c, l⟩, ⟨B, d, m⟩] = cntG l + cntG m := by simp [totG]
  rw [e] at h
  exact h
theorem cnt_bounds {l : List NodeE} {m : Nat} (h : cntG l ≤ m) : l.length ≤ m ∧ ∀ n ∈ l, n.fields.length ≤ m := ⟨by have := cntG_len l; omega, fun n hn => by have := cntG_field hn; omega⟩
/-! ### What the law asks -/
/-- A field of another reached node refers to x. -/
def byB (q : List IDE) (x : IDE) (y : NodeE) (v : ValE) : Bool := ((!decide (y.id = x)) && (y.kind != 2)) && (v.kind == 2) && decide (v.ref = x) && decide (y.id ∈ q)
def heldB (q : List IDE) (x : IDE) (l : List NodeE) : Bool := l.any fun y => y.fields.any (byB q x y)
theorem heldB_take {q : List IDE} {x : IDE} {l : List NodeE} {k : Nat} {y : NodeE} (h : l[k]? = some y) : heldB q x (l.take (k + 1)) = (heldB q x (l.take k) || y.fields.any (byB q x y)) := by
  unfold heldB
  rw [List.take_add_one, h]
  simp
theorem any_take {α : Type} {p : α → Bool} {l : List α} {k : Nat} {y : α} (h : l[k]? = some y) : (l.take (k + 1)).any p = ((l.take k).any p || p y) := by
  rw [List.take_add_one, h]
  simp
/-- Distinct identities: the first node with an identity is the node. -/
theorem first_mem {l : List NodeE} (hv : valid16B (conL l) = true) {n : NodeE} (hn : n ∈ l) : firstN (conL l) n.id = some n.con :=
  firstN_mem (valid16_sorted hv) (List.mem_map.2 ⟨n, hn, rfl⟩)
theorem held_true {l : List NodeE} {roots q : List IDE} (hq : ReachL (conL l) roots q) {x : IDE} (hx : x ∈ q) : (decide (x ∈ roots) || heldB q x l) = true := by
  rcases reach_held ((hq.2 x).1 hx) with h | ⟨a, n, hax, ha, hn, hr⟩
  · simp [h]
  · rw [Bool.or_eq_true]
    right
    obtain ⟨h1, h2⟩ := firstN_some hn
    obtain ⟨m, hm, rfl⟩ := List.mem_map.1 h1
    obtain ⟨hk, v, hv, hvk, hvr⟩ := refsOf_mem.1 hr
    unfold heldB
    rw [List.any_eq_true]
    refine ⟨m, hm, ?_⟩
    rw [List.any_eq_true]
    refine ⟨v, hv, ?_⟩
    have hma : m.id = a := h2
    have hkk : m.kind ≠ 2 := hk
    unfold byB
    have e1 : m.id ≠ x := by rw [hma]; exact hax
    have e2 : m.id ∈ q := by rw [hma]; exact (hq.2 a).2 ha
    simp [e1, e2, hkk, hvk, hvr]
theorem in_root {l : List NodeE} {roots q : List IDE} (hq : ReachL (conL l) roots q) {x : IDE} (hx : x ∈ roots) : decide (x ∈ q) = (firstE l x).isSome := by
  have h1 := (hq.2 x).trans (reach_root hx)
  rw [firstE_N, Option.isSome_map] at h1
  by_cases h : x ∈ q
  · rw [decide_eq_true h, h1.1 h]
  · cases hs : (firstE l x).isSome with
    | true => exact absurd (h1.2 hs) h
    | false => exact decide_eq_false h
theorem in_ref {l : List NodeE} {roots q : List IDE} (hq : ReachL (conL l) roots q) {x : IDE} {n : NodeE} (hx : x ∈ q) (hn : firstE l x = some n) (hk : n.kind ≠ 2) {v : ValE} (hv : v ∈ n.fields) (hvk : v.kind = 2) : decide (v.ref ∈ q) = (firstE l v.ref).isSome := by
  have hN : firstN (conL l) x = some n.con := by rw [firstE_N, hn]; rfl
  have h1 := (hq.2 v.ref).trans (reach_ref ((hq.2 x).1 hx) hN (refsOf_mem.2 ⟨hk, v, hv, hvk, rfl⟩))
  rw [firstE_N, Option.isSome_map] at h1
  by_cases h : v.ref ∈ q
  · rw [decide_eq_true h, h1.1 h]
  · cases hs : (firstE l v.ref).isSome with
    | true => exact absurd (h1.2 hs) h
    | false => exact decide_eq_false h
theorem in_node {l : List NodeE} {roots q : List IDE} (hq : ReachL (conL l) roots q) {x : IDE} (hx : x ∈ q) : ∃ n, firstE l x = some n := by
  have := ((hq.2 x).1 hx).node
  rw [firstE_N, Option.isSome_map] at this
  exact Option.isSome_iff_exists.1 this
end Go.Proofs.YtjegncmkebbdfaaGreatDoor
