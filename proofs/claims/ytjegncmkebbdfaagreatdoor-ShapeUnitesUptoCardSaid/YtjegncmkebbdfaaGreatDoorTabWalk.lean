/-
  A range over a map that is held as a list of values: the laws at the operations, for the walk, outside a fence and inside one. Conditions stand in each theorem.
-/
import Derived.Test.YtjegncmkebbdfaaGreatDoorGrpB
import Derived.OwnWalkIn
set_option linter.unusedSimpArgs false
set_option linter.unusedVariables false
namespace Go.Proofs.YtjegncmkebbdfaaGreatDoor
open Go.RowKit
/-- The entry that has come reads as k, v, in each later world. -/
def EntL (P : Program) (r : Nat) (k v : Value) (w : World) : Prop := ∀ (u : World) [Later w u], (Instr.entry (.pointer (some ⟨r, 0, none⟩))).run P u = .ok (.tuple #[k, v]) u
theorem EntL.out {P : Program} {r : Nat} {k v : Value} {w : World} (h : EntL P r k v w) : ∀ (u : World) [Later w u], (Instr.entry (.pointer (some ⟨r, 0, none⟩))).run P u = .ok (.tuple #[k, v]) u := h
section
variable {κ α : Type} {fk : κ → Value} {fv : α → Value} {kf : α → κ} {g r : Nat} {l : List α} {idxs : List Nat}
variable {P : Program} {w : World} {ops : Array Oper} {rest : List Oper} {o : Oper} {a : Act} {Q : Exit → Act → World → Prop}
theorem wpList_rangeL (hg : o.guard = none) (m : Operand) (t : TypeId) (hop : o.op = Op.range t m) {kt et : TypeId} (ht : P.underlying t = some (.map kt et)) (hm : a.eval m = .map (some g)) (h : MapL fk fv kf w g l)
    (hK : ∀ w', RangeL fk fv kf w' g w.heap.size l [] → Below w.heap.size w w' → w'.heap.size = w.heap.size + 1 → wpList P ops Q rest (a.put o.dst (.pointer (some ⟨w.heap.size, 0, none⟩))) w') : wpList P ops Q (o :: rest) a w := by
  refine wpList_plain hg fun K' hK' => ?_
  obtain ⟨w', hrun, r1, r2, r3, r4⟩ := h.range ht
  unfold Oper.wp
  simp [execOp, hop, hm, hrun, Result.andThen]
  exact hK' _ _ (hK w' r1 r4 r3)
theorem wpList_nextL (hg : o.guard = none) (it : Operand) (hop : o.op = Op.next it false) (hit : a.eval it = .pointer (some ⟨r, 0, none⟩)) (h : RangeL fk fv kf w g r l idxs)
    (hDone : (∀ i, i < l.length → i ∈ idxs) → wpList P ops Q rest (a.put o.dst (.tuple #[.bool false])) w)
    (hMore : ∀ (i : Nat) (x : α) (w' : World), l[i]? = some x → i ∉ idxs → RangeL fk fv kf w' g r l (idxs ++ [i]) → EntL P r (fk (kf x)) (fv x) w' → w.grownBy w' (some r) → w'.heap.size = w.heap.size → (∀ B, B ≤ r → Below B w w') →
      wpList P ops Q rest (a.put o.dst (.tuple #[.bool true, fk (kf x), fv x])) w') : wpList P ops Q (o :: rest) a w := by
  refine wpList_plain hg fun K' hK' => ?_
  unfold Oper.wp
  rcases h.next (P := P) o.type with ⟨hall, hrun⟩ | ⟨i, x, w', hx, hi, hrun, hrg, hen, hgr, hsz, hb⟩
  · simp [execOp, hop, hit, hrun, Result.andThen]
    exact hK' _ _ (hDone hall)
  · simp [execOp, hop, hit, hrun, Result.andThen]
    exact hK' _ _ (hMore i x w' hx hi hrg hen hgr hsz hb)
end
section
variable {κ α : Type} {fk : κ → Value} {fv : α → Value} {kf : α → κ} {g r : Nat} {l : List α} {idxs : List Nat}
variable {F : Fence} {n : Nat} {P : Program} {w : World} {ops : Array Oper} {rest : List Oper} {o : Oper} {a : Act} {Q : Exit → Act → World → Prop}
theorem wpListIn_rangeL (hg : o.guard = none) (m : Operand) (t : TypeId) (hop : o.op = Op.range t m) {kt et : TypeId} (ht : P.underlying t = some (.map kt et)) (hm : a.eval m = .map (some g)) (h : MapL fk fv kf w g l)
    (hK : ∀ w', RangeL fk fv kf w' g w.heap.size l [] → Below w.heap.size w w' → w'.heap.size = w.heap.size + 1 → w.grownBy w' none → wpListIn F n P ops Q rest (a.put o.dst (.pointer (some ⟨w.heap.size, 0, none⟩))) w') : wpListIn F n P ops Q (o :: rest) a w := by
  refine wpListIn_plain hg fun K' hK' => ?_
  obtain ⟨w', hrun, r1, r2, r3, r4⟩ := h.range ht
  unfold Oper.wpIn
  refine ⟨?_, ?_⟩
  · simp [Oper.about, hop]
  · rw [Oper.semAt_plain F _ _ (by rw [hop]; intro c hc'; cases hc')]
    simp [execOp, hop, hm, hrun, Result.andThen]
    exact hK' _ _ (hK w' r1 r4 r3 r2)
theorem wpListIn_nextL (hg : o.guard = none) (it : Operand) (hop : o.op = Op.next it false) (hit : a.eval it = .pointer (some ⟨r, 0, none⟩)) (h : RangeL fk fv kf w g r l idxs)
    (hDone : (∀ i, i < l.length → i ∈ idxs) → wpListIn F n P ops Q rest (a.put o.dst (.tuple #[.bool false])) w)
    (hMore : ∀ (i : Nat) (x : α) (w' : World), l[i]? = some x → i ∉ idxs → RangeL fk fv kf w' g r l (idxs ++ [i]) → EntL P r (fk (kf x)) (fv x) w' → w.grownBy w' (some r) → w'.heap.size = w.heap.size → (∀ B, B ≤ r → Below B w w') →
      wpListIn F n P ops Q rest (a.put o.dst (.tuple #[.bool true, fk (kf x), fv x])) w') : wpListIn F n P ops Q (o :: rest) a w := by
  refine wpListIn_plain hg fun K' hK' => ?_
  unfold Oper.wpIn
  refine ⟨by simp [Oper.about, hop], ?_⟩
  rw [Oper.semAt_plain F _ _ (by rw [hop]; intro c hc'; cases hc')]
  rcases h.next (P := P) o.type with ⟨hall, hrun⟩ | ⟨i, x, w', hx, hi, hrun, hrg, hen, hgr, hsz, hb⟩
  · simp [execOp, hop, hit, hrun, Result.andThen]
    exact hK' _ _ (hDone hall)
  · simp [execOp, hop, hit, hrun, Result.andThen]
    exact hK' _ _ (hMore i x w' hx hi hrg hen hgr hsz hb)
end
/-! ### Worlds in which all but one block stays -/
/-- w is b, some steps later, in which nothing but block g was written. -/
abbrev Gro (g : Nat) (b w : World) : Prop := Nonempty (b.grownBy w (some g))
section
variable {g : Nat} {b w w' u : World}
theorem Gro.out (h : Gro g b w) : b.grownBy w (some g) := by obtain ⟨x⟩ := h; exact x
instance Gro.refl : Gro g w w := ⟨World.grownBy.refl w _⟩
instance Gro.drew [h : Gro g b w] : Gro g b w.drew := ⟨h.out.os, h.out.tape, h.out.output, h.out.size, h.out.block⟩
instance Gro.drewN {n : Nat} [h : Gro g b w] : Gro g b (w.drewN n) := ⟨h.out.os, h.out.tape, h.out.output, h.out.size, h.out.block⟩
instance Gro.alloc {o : Obj} [h : Gro g b w] : Gro g b (w.alloc o) := ⟨h.out.trans (World.grownBy_alloc w o (some g))⟩
instance Gro.later [h : Later b w] : Gro g b w := ⟨grown_below h.below _⟩
instance Gro.putAt {o : Obj} [h : Gro g b w] : Gro g b (putAt w g o) := ⟨h.out.trans ⟨rfl, rfl, rfl, by simp [putAt_size], fun k _ hk => putAt_heap (fun e => hk (by rw [e]))⟩⟩
theorem Gro.trans {c : World} (h : Gro g b w) (k : Gro g w c) : Gro g b c := ⟨h.out.trans k.out⟩
theorem gro (h : w.grownBy w' (some g)) : ∀ b [Gro g b w], Gro g b w' := fun _ i => ⟨i.out.trans h⟩
theorem gro_below (h : Below w.heap.size w w') : ∀ b [Gro g b w], Gro g b w' := fun _ i => ⟨i.out.trans (grown_below h _)⟩
theorem gro_of [h : Gro g b w] : b.grownBy w (some g) := h.out
theorem Gro.cell {a : Addr} {v : Value} (hne : a.block ≠ g) (h : b.cell? a = some v) : ∀ u [Gro g b u], u.cell? a = some v := fun u i => by
  have hlt := World.block_lt_of_cell? b a h
  have hb := i.out.block a.block hlt (fun e => hne (by injection e))
  rw [World.cell?, hb, ← World.cell?]; exact h
theorem boxed_gro {c : Array Value} {t : TypeId} {n : Nat} (h : Boxed w n c t) (hne : n ≠ g) : ∀ (u : World) [Gro g w u], u.heap[n]? = some (.cells c t (0, 0)) ∧ ∀ (i : Nat), u.cell? ⟨n, i, none⟩ = c[i]? ∧ u.frozen? ⟨n, i, none⟩ = false := fun u i => by
  have e : u.heap[n]? = some (.cells c t (0, 0)) := (i.out.block n (boxed_lt h) (fun e => hne (by injection e))).trans (h w).1
  exact ⟨e, fun j => ⟨blk_cell e j, blk_free e j⟩⟩
theorem grown_belowG {B : Nat} (h : w.grownBy w' (some g)) (hB : B ≤ g) (hw : B ≤ w.heap.size) : Below B w w' := (Below.refl B w).grown h hw fun k hk => by injection hk with hk; omega
end
end Go.Proofs.YtjegncmkebbdfaaGreatDoor
