/-
  clear on a stretch of zeros. Conditions stand in each theorem.
-/
import Derived.Test.YtjegncmkebbdfaaGreatDoorGrp51
import Derived.Test.YtjegncmkebbdfaaGreatDoorGrp70
set_option linter.unusedSimpArgs false
set_option linter.unusedVariables false
namespace Go.Proofs.YtjegncmkebbdfaaGreatDoor
open Go.RowKit
section
variable {e : TypeId} {base g c : Nat} {w : World} {L : List Int}
theorem set_same {cur : Array Value} {o : Nat} {v : Value} (h : cur[o]? = some v) : cur.setIfInBounds o v = cur := by
  obtain ⟨hl, h⟩ := Array.getElem?_eq_some_iff.1 h
  apply Array.ext
  · simp
  · intro i h1 h2
    rw [Array.getElem_setIfInBounds]
    split
    · next e => subst e; exact h.symm
    · rfl
theorem heap_setCells_same (g : Nat) : ∀ (vs : List Value) (o : Nat) (w : World) (cur : Array Value), w.heap[g]? = some (.cells cur e (0, 0)) → (∀ j v, vs[j]? = some v → cur[o + j]? = some v) → (w.setCells g o vs).heap[g]? = some (.cells cur e (0, 0))
  | [], _, _, _, h, _ => h
  | v :: vs, o, w, cur, h, hv => by
    have h1 := blk_set h o v
    rw [set_same (show cur[o]? = some v from hv 0 v rfl)] at h1
    exact heap_setCells_same g vs (o + 1) _ cur h1 fun j u hj => by
      have := hv (j + 1) u hj
      rwa [show o + 1 + j = o + (j + 1) by omega]
theorem own_blk (h : Own W64.cells 1 e base w (.slice (some ⟨g, 0, none⟩) c c) L) (hL : L.length = c) : w.heap[g]? = some (.cells (L.flatMap W64.cells).toArray e (0, 0)) := by
  rcases h.2 with ⟨h0, _⟩ | ⟨g', cap, cur, h0, _, hg, hc, hm, hsz, hx⟩
  · cases h0
  injection h0 with h1 h2 h3
  injection h1 with h1
  injection h1 with h1
  subst h1 h3
  rw [hL, List.take_of_length_le (by rw [Array.length_toList, hsz]; exact Nat.le_refl _)] at hx
  rw [hg, ← hx]
theorem run_clear_zero {P : Program} {t ty : TypeId} (ht : P.underlying t = some (.slice e)) (hz : ∀ w, (zeroValue e).run P w = .ok (.int .u64 0) w) (h : Own W64.cells 1 e base w (.slice (some ⟨g, 0, none⟩) c c) L) (hL : L.length = c) {n k d : Nat} (hk : 0 < k) (hnk : n + k ≤ c) (h0 : ∀ j, j < k → L[n + j]? = some 0) :
    ∃ w', (Builtin.clear_ #[t] ty #[.slice (some ⟨g, n, none⟩) k d]).run P w = .ok (.tuple #[]) w' ∧ Own W64.cells 1 e base w' (.slice (some ⟨g, 0, none⟩) c c) L ∧ w.grownBy w' (some g) ∧ w'.heap.size = w.heap.size := by
  have hb := own_blk h hL
  have hcell : ∀ j, j < k → w.cell? ⟨g, n + j, none⟩ = some (.int .u64 0) := fun j hj => by
    have := h.cell W64.enc (h0 j hj) (j := 0) rfl
    simpa using this
  have hzc : (Builtin.zeroCells (Value.int .u64 0).cells k).toList = (List.replicate k (0 : Int)).flatMap W64.cells := by rw [zeroCells_w64]
  have hlen : (Builtin.zeroCells (Value.int .u64 0).cells k).toList.length = k := by rw [hzc, W64.enc.flat_length, List.length_replicate, Nat.mul_one]
  have hst := run_storeCells_cells (P := P) g n (Builtin.zeroCells (Value.int .u64 0).cells k).toList 0 w (fun j hj => by rw [hlen] at hj; rw [Nat.add_zero, hcell j hj]; rfl) (fun j _ => h.free _) (fun u hu => by
    rw [hzc] at hu
    exact W64.enc.flat_one _ u hu)
  simp only [Nat.add_zero] at hst
  refine ⟨w.setCells g n (Builtin.zeroCells (Value.int .u64 0).cells k).toList, ?_, ?_, setCells_grownBy g _ _ w, setCells_size g _ _ w⟩
  · obtain ⟨k', rfl⟩ : ∃ k', k = k' + 1 := ⟨k - 1, by omega⟩
    simp [Builtin.clear_, run_underlying ht, hz, hst]
  · have h1 := heap_setCells_same g (Builtin.zeroCells (Value.int .u64 0).cells k).toList n w _ hb (fun j v hj => by
      rw [hzc] at hj
      have hjk : j < k := by
        have := (List.getElem?_eq_some_iff.1 hj).1
        rw [W64.enc.flat_length, List.length_replicate] at this; omega
      have e1 := W64.enc.flat_get (List.replicate k (0 : Int)) j 0 0 (by rw [List.getElem?_replicate, if_pos hjk]) (by decide)
      have e2 := W64.enc.flat_get L (n + j) 0 0 (h0 j hjk) (by decide)
      rw [Nat.mul_one, Nat.add_zero] at e1 e2
      rw [hj] at e1
      rw [e1, ← e2]
      simp)
    refine ⟨h.1, ?_⟩
    rcases h.2 with ⟨h0, _⟩ | ⟨g', cap, cur, hv, hbg, hg, hc, hm, hsz, hx⟩
    · cases h0
    injection hv with a1 a2 a3
    injection a1 with a1
    injection a1 with a1
    subst a1 a3
    rw [hb] at hg
    injection hg with hg
    injection hg with hg _ _
    subst hg
    exact .inr ⟨g, c, _, by rw [hL], hbg, h1, hc, hm, hsz, hx⟩
theorem wpList_clear0 {P : Program} {t : TypeId} {ops : Array Oper} {rest : List Oper} {o : Oper} {a : Act} {Q : Exit → Act → World → Prop} (hgd : o.guard = none) (x : Operand)
    (ho : o.op = .call { callee := .builtin .clear, args := #[x], argTypes := #[t] }) (ht : P.underlying t = some (.slice e)) (hz : ∀ w, (zeroValue e).run P w = .ok (.int .u64 0) w) (h : Own W64.cells 1 e base w (.slice (some ⟨g, 0, none⟩) c c) L) (hL : L.length = c) (n k d : Nat) (hx : a.eval x = .slice (some ⟨g, n, none⟩) k d) (hk : 0 < k) (hnk : n + k ≤ c) (h0 : ∀ j, j < k → L[n + j]? = some 0)
    (hh : ∀ w', Own W64.cells 1 e base w' (.slice (some ⟨g, 0, none⟩) c c) L → w.grownBy w' (some g) → w'.heap.size = w.heap.size → wpList P ops Q rest (a.put o.dst (.tuple #[])) w') : wpList P ops Q (o :: rest) a w :=
  wpList_plain hgd fun K hK => by
    obtain ⟨w', hrun, h2, h3, h4⟩ := run_clear_zero (P := P) (ty := o.type) (d := d) ht hz h hL hk hnk h0
    unfold Oper.wp execOp
    simp only [ho, resolve, invoke, builtin, Sem.run_bind, Sem.run_pure, Result.andThen_ok, List.map_toArray, List.map_cons, List.map_nil, hx, hrun]
    exact hK _ _ (hh w' h2 h3 h4)
end
/-- The words of an object. -/
def tailZ (k : Nat) (a b : Int) : List Int := a :: b :: List.replicate (k - 2) 0
theorem tailZ_len {k : Nat} (h : 2 ≤ k) (a b : Int) : (tailZ k a b).length = k := by unfold tailZ; simp; omega
theorem put_tail {ws : List Int} {m k : Nat} (hk : 2 ≤ k) (hm : k ≤ m) (a b : Int) : ((ws ++ List.replicate m 0).set ws.length a).set (ws.length + 1) b = (ws ++ tailZ k a b) ++ List.replicate (m - k) 0 := by
  obtain ⟨k, rfl⟩ : ∃ j, k = j + 2 := ⟨k - 2, by omega⟩
  obtain ⟨m, rfl⟩ : ∃ j, m = j + 2 := ⟨m - 2, by omega⟩
  rw [List.set_append_right _ _ (Nat.le_refl _), Nat.sub_self, List.set_append_right _ _ (by omega), show ws.length + 1 - ws.length = 1 by omega, List.replicate_succ, List.replicate_succ, List.set_cons_zero, List.set_cons_succ, List.set_cons_zero, List.append_assoc]
  congr 1
  unfold tailZ
  rw [List.cons_append, List.cons_append, List.replicate_append_replicate]
  congr 3
  omega
end Go.Proofs.YtjegncmkebbdfaaGreatDoor
