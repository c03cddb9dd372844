/-
  Contracts of the functions of this seat that each theorem names: what a call returns, and that it writes nothing that was there before. The conditions stand in each theorem.
-/
import Derived.Test.YtjegncmkebbdfaaDoorF16Fmt2
import Derived.Test.YtjegncmkebbdfaaDoorF16Dig2
set_option linter.unusedSimpArgs false
set_option linter.unusedVariables false
namespace Go.Proofs.YtjegncmkebbdfaaDoor
open Go.RowKit
attribute [local go_sem ↓] run_eql_id run_neq_id
attribute [local simp] heap_drew
theorem joinTail_snoc (sep x : List UInt8) (r : List (List UInt8)) : Lib.joinTail sep (r ++ [x]) = Lib.joinTail sep r ++ (sep ++ x) := by
  unfold Lib.joinTail
  simp
theorem join_snoc {sep x : List UInt8} {r : List (List UInt8)} (h : r ≠ []) : Lib.join (r ++ [x]) sep = Lib.join r sep ++ (sep ++ x) := by
  cases r with
  | nil => exact absurd rfl h
  | cons y r => rw [List.cons_append, Lib.join_cons, Lib.join_cons, joinTail_snoc, List.append_assoc]
def headB (n : NodeC) : List UInt8 := nameB n.id ++ [32] ++ kindNmB n.kind ++ [32] ++ Lib.itoa n.clas
def piecesB (n : NodeC) (k : Nat) : List UInt8 := headB n ++ [32, 40] ++ Lib.join ((n.fields.take k).map textB) [44, 32]
theorem lineB_stub {n : NodeC} (h : n.kind = 3) : lineB n = headB n := by unfold lineB headB; rw [if_pos h]; simp
theorem lineB_full {n : NodeC} (h : n.kind ≠ 3) : lineB n = piecesB n n.fields.length ++ [41] := by unfold lineB piecesB headB; rw [if_neg h, List.take_length]; simp
theorem head_len {n : NodeC} (hn : validNodeB n = true) : (headB n).length ≤ 100 := by
  obtain ⟨m1, m2, m3⟩ := validNode_more hn
  have z1 := nameB_len (idOk_of m1)
  have z2 := kindNm_len n.kind
  have z3 := Lib.itoa_length_le n.clas m2.1 m2.2
  unfold headB
  simp only [List.length_append, List.length_cons, List.length_nil]
  omega
theorem pieces_len {n : NodeC} (hn : validNodeB n = true) (k : Nat) : (piecesB n k).length ≤ 2000 := by
  have z1 := head_len hn
  have k3 := (validNode_kind hn).2.2
  have m3 := (validNode_more hn).2.2
  have := join_len (r := (n.fields.take k).map textB) fun x hx => by
    obtain ⟨v, hv, rfl⟩ := List.mem_map.1 hx
    exact textB_len (valOk_of (k3 v (List.mem_of_mem_take hv)))
  rw [List.length_map, List.length_take] at this
  unfold piecesB
  simp only [List.length_append, List.length_cons, List.length_nil]
  omega
theorem head_parts (n : NodeC) (hn : validNodeB n = true) : ∃ C1 C2 C3 C4 C5 : ByteArray,
    (∀ u : World, (Op.stringOp .add (bs (nameB n.id)) ⟨#[32]⟩).run Tryd.prog u = .ok (.string C1) u) ∧ (∀ u : World, (Op.stringOp .add C1 (bs (kindNmB n.kind))).run Tryd.prog u = .ok (.string C2) u) ∧
    (∀ u : World, (Op.stringOp .add C2 ⟨#[32]⟩).run Tryd.prog u = .ok (.string C3) u) ∧ (∀ u : World, (Op.stringOp .add C3 (bs (Lib.itoa n.clas))).run Tryd.prog u = .ok (.string C4) u) ∧
    (∀ u : World, (Op.stringOp .add C4 ⟨#[32, 40]⟩).run Tryd.prog u = .ok (.string C5) u) ∧ Hid (C4 = bs (headB n)) ∧ Hid (C5 = bs (piecesB n 0)) := by
  obtain ⟨m1, m2, m3⟩ := validNode_more hn
  have z1 := nameB_len (idOk_of m1)
  have z2 := kindNm_len n.kind
  have z3 := Lib.itoa_length_le n.clas m2.1 m2.2
  refine ⟨bs (nameB n.id ++ [32]), bs (nameB n.id ++ [32] ++ kindNmB n.kind), bs (nameB n.id ++ [32] ++ kindNmB n.kind ++ [32]), bs (nameB n.id ++ [32] ++ kindNmB n.kind ++ [32] ++ Lib.itoa n.clas), bs (nameB n.id ++ [32] ++ kindNmB n.kind ++ [32] ++ Lib.itoa n.clas ++ [32, 40]), fun u => cat_run _ [32] ?_ u, fun u => cat_run _ _ ?_ u, fun u => cat_run _ [32] ?_ u, fun u => cat_run _ _ ?_ u, fun u => cat_run _ [32, 40] ?_ u, hide rfl, hide ?_⟩
  any_goals (simp only [List.length_append, List.length_cons, List.length_nil]; omega)
  unfold piecesB headB
  rw [List.take_zero, List.map_nil, Lib.join_nil, List.append_nil]
theorem round_parts (n : NodeC) (hn : validNodeB n = true) {k : Nat} {v : ValE} (hv : n.fields[k]? = some v) {z : ByteArray} (hz : z = bs (piecesB n k)) : ∃ z1 z2 : ByteArray,
    (0 < k → (∀ u : World, (Op.stringOp .add z ⟨#[44, 32]⟩).run Tryd.prog u = .ok (.string z1) u) ∧ ∀ u : World, (Op.stringOp .add z1 (bs (textB v))).run Tryd.prog u = .ok (.string z2) u) ∧
    (k = 0 → ∀ u : World, (Op.stringOp .add z (bs (textB v))).run Tryd.prog u = .ok (.string z2) u) ∧ Hid (z2 = bs (piecesB n (k + 1))) := by
  subst hz
  have k3 := (validNode_kind hn).2.2
  have hl := pieces_len hn k
  have hvl := textB_len (valOk_of (k3 v (List.mem_of_getElem? hv)))
  have ht := take_map_snoc (f := textB) hv
  refine ⟨bs (piecesB n k ++ [44, 32]), bs (piecesB n (k + 1)), fun hk => ⟨fun u => cat_run _ [44, 32] (by simp only [List.length_cons, List.length_nil]; omega) u, fun u => ?_⟩, fun hk u => ?_, hide rfl⟩
  · have e : piecesB n (k + 1) = piecesB n k ++ [44, 32] ++ textB v := by
      have hne : (n.fields.take k).map textB ≠ [] := fun h => by
        have h1 := congrArg List.length h
        rw [List.length_map, List.length_take, List.length_nil] at h1
        have := (List.getElem?_eq_some_iff.1 hv).1
        omega
      unfold piecesB
      rw [ht, join_snoc hne]
      simp
    rw [e]
    exact cat_run _ _ (by simp only [List.length_append, List.length_cons, List.length_nil]; omega) u
  · have e : piecesB n (k + 1) = piecesB n k ++ textB v := by
      subst hk
      unfold piecesB
      rw [ht, List.take_zero, List.map_nil, List.nil_append, Lib.join_one, Lib.join_nil]
      simp
    rw [e]
    exact cat_run _ _ (by omega) u
theorem last_part (n : NodeC) (hn : validNodeB n = true) (h3 : n.kind ≠ 3) {z : ByteArray} (hz : z = bs (piecesB n n.fields.length)) : ∃ zE : ByteArray, (∀ u : World, (Op.stringOp .add z ⟨#[41]⟩).run Tryd.prog u = .ok (.string zE) u) ∧ Hid (zE = bs (lineB n)) := by
  subst hz
  have hl := pieces_len hn n.fields.length
  exact ⟨_, fun u => cat_run _ [41] (by simp only [List.length_cons, List.length_nil]; omega) u, hide (by rw [lineB_full h3])⟩
end Go.Proofs.YtjegncmkebbdfaaDoor
