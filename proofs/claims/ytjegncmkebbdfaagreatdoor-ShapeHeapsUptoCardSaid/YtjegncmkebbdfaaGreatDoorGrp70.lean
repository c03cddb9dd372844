/-
  Small texts of this seat, put into one. Conditions stand in each theorem.
-/
import Derived.Test.YtjegncmkebbdfaaGreatDoorGrpA
import Derived.Laws.IdiomCopy
import Derived.Deep.Upon
set_option linter.unusedSimpArgs false
set_option linter.unusedVariables false
namespace Go.Proofs.YtjegncmkebbdfaaGreatDoor
open Go.RowKit
section
variable {α : Type} {f : α → List Value} {s : Nat} {e : TypeId} {base : Nat} {w w' : World} {l : List α} {g n c : Nat}
theorem flat_take_len (he : Enc f s) : ∀ (l : List α) (k : Nat), (l.take k).flatMap f = (l.flatMap f).take (k * s)
  | [], k => by simp
  | x :: l, 0 => by simp
  | x :: l, k + 1 => by
    have := flat_take_len he l k
    rw [List.take_succ_cons, List.flatMap_cons, List.flatMap_cons, List.take_append, he.len, this]
    rw [List.take_of_length_le (l := f x) (by rw [he.len, Nat.succ_mul]; omega)]
    rw [Nat.succ_mul, Nat.add_sub_cancel]
theorem Own.cut (h : Own f s e base w (.slice (some ⟨g, 0, none⟩) n c) l) (he : Enc f s) {k : Nat} (hk : k ≤ l.length) : Own f s e base w (.slice (some ⟨g, 0, none⟩) k c) (l.take k) := by
  have hn := h.len
  subst hn
  have hlen : (l.take k).length = k := by rw [List.length_take]; omega
  unfold Own
  refine ⟨by rw [he.flat_length], ?_⟩
  rcases h.2 with ⟨h0, _⟩ | ⟨g', cap, cur, hv, hb, hg, hc, hm, hsz, hx⟩
  · cases h0
  injection hv with h1 h2 h3
  injection h1 with h1
  injection h1 with h1
  subst h1 h3
  refine .inr ⟨g, c, cur, by rw [hlen], hb, hg, by omega, hm, hsz, ?_⟩
  rw [hlen, flat_take_len he, ← hx, List.take_take]
  congr 1
  exact (Nat.min_eq_left (Nat.mul_le_mul_right _ hk)).symm
theorem heap_setCells (g : Nat) : ∀ (vs : List Value) (o : Nat) (w : World) (cur : Array Value), w.heap[g]? = some (.cells cur e (0, 0)) → ∃ cur', (w.setCells g o vs).heap[g]? = some (.cells cur' e (0, 0)) ∧ cur'.size = cur.size ∧ cur'.toList.take o = cur.toList.take o
  | [], o, w, cur, h => ⟨cur, h, rfl, rfl⟩
  | v :: vs, o, w, cur, h => by
    obtain ⟨cur', h1, h2, h3⟩ := heap_setCells g vs (o + 1) (w.setCell ⟨g, o, none⟩ v) _ (blk_set h o v)
    refine ⟨cur', h1, by rw [h2]; simp, ?_⟩
    have := congrArg (List.take o) h3
    rw [List.take_take, List.take_take, Nat.min_eq_left (by omega)] at this
    rw [this]
    simp [List.take_set_of_le]
theorem setCells_size (g : Nat) : ∀ (vs : List Value) (o : Nat) (w : World), (w.setCells g o vs).heap.size = w.heap.size
  | [], _, _ => rfl
  | v :: vs, o, w => by
    rw [World.setCells, setCells_size g vs (o + 1)]
    simp [World.setCell]
theorem setCells_grownBy (g : Nat) : ∀ (vs : List Value) (o : Nat) (w : World), w.grownBy (w.setCells g o vs) (some g)
  | [], _, w => World.grownBy.refl w _
  | v :: vs, o, w => (grown_setCell w ⟨g, o, none⟩ v).trans (setCells_grownBy g vs (o + 1) _)
theorem Own.setCells (h : Own f s e base w (.slice (some ⟨g, 0, none⟩) n c) l) (he : Enc f s) (vs : List Value) {o : Nat} (ho : n * s ≤ o) : Own f s e base (w.setCells g o vs) (.slice (some ⟨g, 0, none⟩) n c) l := by
  have hn := h.len
  subst hn
  refine ⟨h.1, ?_⟩
  rcases h.2 with ⟨h0, _⟩ | ⟨g', cap, cur, hv, hb, hg, hc, hm, hsz, hx⟩
  · cases h0
  injection hv with h1 h2 h3
  injection h1 with h1
  injection h1 with h1
  subst h1 h3
  obtain ⟨cur', e1, e2, e3⟩ := heap_setCells g vs o w cur hg
  refine .inr ⟨g, c, cur', rfl, hb, e1, hc, hm, by rw [e2]; exact hsz, ?_⟩
  have := congrArg (List.take (l.length * s)) e3
  rw [List.take_take, List.take_take, Nat.min_eq_left ho] at this
  rw [this]; exact hx
/-- clear(xs[k:]) on the call's own xs: what is left of it is its first k elements. -/
theorem run_clear_own {P : Program} {t : TypeId} {bytes : Nat} {ty : TypeId} (he : Enc f s) (ht : ElemT P t e s bytes) (z : Value) (hz : ∀ w, (zeroValue e).run P w = .ok z w) (hz1 : ∀ u ∈ z.cells.toList, u.oneCell' = true) (hzs : z.cells.size = s)
    (h : Own f s e base w (.slice (some ⟨g, 0, none⟩) n c) l) {k m d : Nat} (hm : k + m = l.length) (hb : base ≤ w.heap.size) :
    ∃ w', (Builtin.clear_ #[t] ty #[.slice (some ⟨g, k * s, none⟩) m d]).run P w = .ok (.tuple #[]) w' ∧ Own f s e base w' (.slice (some ⟨g, 0, none⟩) k c) (l.take k) ∧ w.grownBy w' (some g) ∧ Below base w w' := by
  have hcut := h.cut he (k := k) (by omega)
  by_cases hm0 : m = 0
  · subst hm0
    refine ⟨w, ?_, hcut, World.grownBy.refl w _, Below.refl _ _⟩
    simp [Builtin.clear_, run_underlying ht.slice]
  · have hn := h.len
    subst hn
    have hcells : ∀ j, j < l.length * s → (w.cell? ⟨g, j, none⟩).isSome = true := fun j hj => by
      have hs := he.pos
      have hk : j / s < l.length := by rw [Nat.div_lt_iff_lt_mul hs]; exact hj
      have hr : j % s < s := Nat.mod_lt _ hs
      have hje : j / s * s + j % s = j := by rw [Nat.mul_comm]; exact Nat.div_add_mod j s
      have hx := List.getElem?_eq_getElem hk
      have hu : ∃ u, (f l[j / s])[j % s]? = some u := ⟨_, List.getElem?_eq_getElem (by rw [he.len]; exact hr)⟩
      obtain ⟨u, hu⟩ := hu
      have := h.cell he hx hu
      rw [hje] at this
      rw [this]; rfl
    have hzc : (Builtin.zeroCells z.cells m).size = m * s := by simp [Builtin.zeroCells, hzs, Nat.mul_comm]
    have hz2 : ∀ u ∈ (Builtin.zeroCells z.cells m).toList, u.oneCell' = true := by
      intro u hu
      simp only [Builtin.zeroCells] at hu
      rw [List.mem_iff_getElem] at hu
      obtain ⟨i, hi, rfl⟩ := hu
      simp
      apply hz1
      have hlt : i % z.cells.size < z.cells.size := Nat.mod_lt _ (by rw [hzs]; exact he.pos)
      rw [getElem!_pos z.cells _ hlt]
      exact Array.mem_toList_iff.2 (Array.getElem_mem hlt)
    have hlen : (Builtin.zeroCells z.cells m).toList.length = m * s := by rw [Array.length_toList]; exact hzc
    have hks : k * s + m * s = l.length * s := by rw [← Nat.add_mul, hm]
    have hst := run_storeCells_cells (P := P) g (k * s) (Builtin.zeroCells z.cells m).toList 0 w (fun j hj => hcells _ (by rw [hlen] at hj; omega)) (fun j _ => h.free _) hz2
    simp only [Nat.add_zero] at hst
    refine ⟨w.setCells g (k * s) (Builtin.zeroCells z.cells m).toList, ?_, hcut.setCells he _ (Nat.le_refl _), setCells_grownBy g _ _ w, ?_⟩
    · obtain ⟨m', rfl⟩ : ∃ m', m = m' + 1 := ⟨m - 1, by omega⟩
      simp [Builtin.clear_, run_underlying ht.slice, hz, hst]
    · exact (Below.refl base w).grown (setCells_grownBy g _ _ w) hb (fun k hk => by injection hk with hk; subst hk; exact h.base_le)
theorem wpList_clear {P : Program} {t : TypeId} {bytes : Nat} {ops : Array Oper} {rest : List Oper} {o : Oper} {a : Act} {Q : Exit → Act → World → Prop} (hgd : o.guard = none) (x : Operand)
    (ho : o.op = .call { callee := .builtin .clear, args := #[x], argTypes := #[t] }) (he : Enc f s) (ht : ElemT P t e s bytes) (z : Value) (hz : ∀ w, (zeroValue e).run P w = .ok z w) (hz1 : ∀ u ∈ z.cells.toList, u.oneCell' = true) (hzs : z.cells.size = s)
    (h : Own f s e base w (.slice (some ⟨g, 0, none⟩) n c) l) (k m d off : Nat) (hx : a.eval x = .slice (some ⟨g, off, none⟩) m d) (hoff : off = k * s) (hm : k + m = l.length) (hb : base ≤ w.heap.size)
    (hk : ∀ w', Own f s e base w' (.slice (some ⟨g, 0, none⟩) k c) (l.take k) → w.grownBy w' (some g) → Below base w w' → wpList P ops Q rest (a.put o.dst (.tuple #[])) w') : wpList P ops Q (o :: rest) a w :=
  wpList_plain hgd fun K hK => by
    subst hoff
    obtain ⟨w', hrun, h2, h3, h4⟩ := run_clear_own (P := P) (ty := o.type) (d := d) he ht z hz hz1 hzs h hm hb
    unfold Oper.wp execOp
    simp only [ho, resolve, invoke, builtin, Sem.run_bind, Sem.run_pure, Result.andThen_ok, List.map_toArray, List.map_cons, List.map_nil, hx, hrun]
    exact hK _ _ (hk w' h2 h3 h4)
end
end Go.Proofs.YtjegncmkebbdfaaGreatDoor

namespace Go.Proofs.YtjegncmkebbdfaaGreatDoor
open Go.RowKit
/-- w' is w, but for the blocks that s names, and for new ones. -/
structure Only (s : Nat → Prop) (w w' : World) : Prop where
  os : w'.os = w.os
  tape : w'.tape = w.tape
  output : w'.output = w.output
  size : w.heap.size ≤ w'.heap.size
  block : ∀ k, k < w.heap.size → ¬ s k → w'.heap[k]? = w.heap[k]?
section
variable {s s' : Nat → Prop} {w w' w'' b : World}
theorem Only.refl : Only s w w := ⟨rfl, rfl, rfl, Nat.le_refl _, fun _ _ _ => rfl⟩
theorem Only.trans (h : Only s w w') (k : Only s w' w'') : Only s w w'' :=
  ⟨k.os.trans h.os, k.tape.trans h.tape, k.output.trans h.output, Nat.le_trans h.size k.size, fun i hi hs => (k.block i (Nat.lt_of_lt_of_le hi h.size) hs).trans (h.block i hi hs)⟩
/-- Behind a first step, blocks that the first world has not are free. -/
theorem Only.trans' (h : Only s w w') (k : Only s' w' w'') (hs : ∀ k, k < w.heap.size → s' k → s k) : Only s w w'' :=
  ⟨k.os.trans h.os, k.tape.trans h.tape, k.output.trans h.output, Nat.le_trans h.size k.size, fun i hi hn => (k.block i (Nat.lt_of_lt_of_le hi h.size) (fun e => hn (hs i hi e))).trans (h.block i hi hn)⟩
theorem Only.mono (h : Only s w w') (hs : ∀ k, k < w.heap.size → s k → s' k) : Only s' w w' := ⟨h.os, h.tape, h.output, h.size, fun k hk hn => h.block k hk fun e => hn (hs k hk e)⟩
theorem Only.drew (h : Only s w w') : Only s w w'.drew := ⟨h.os, h.tape, h.output, h.size, h.block⟩
theorem Only.alloc (h : Only s w w') (o : Obj) : Only s w (w'.alloc o) :=
  ⟨h.os, h.tape, h.output, by have := h.size; simp; omega, fun k hk hn => by rw [heap_alloc_if, if_neg (by have := h.size; omega)]; exact h.block k hk hn⟩
theorem Only.setCell (h : Only s w w') {p : Addr} (hp : s p.block ∨ w.heap.size ≤ p.block) (v : Value) : Only s w (w'.setCell p v) :=
  ⟨h.os, h.tape, h.output, by have := h.size; simpa [World.setCell] using this, fun k hk hn => by
    rw [blk_far (by rintro rfl; rcases hp with hp | hp; exact hn hp; omega)]; exact h.block k hk hn⟩
theorem Only.of_below (h : Below w.heap.size w w') : Only s w w' := ⟨h.os, h.tape, h.output, h.size, fun k hk _ => h.block k hk⟩
theorem Only.below {B : Nat} (h : Only s w w') (hs : ∀ k, s k → B ≤ k) (hB : B ≤ w.heap.size) : Below B w w' :=
  ⟨h.os, h.tape, h.output, h.size, fun k hk => h.block k (by omega) fun e => by have := hs k e; omega⟩
theorem Only.later {W : World} (h : Only s w w') (hs : ∀ k, s k → W.heap.size ≤ k) [l : Later W w] : ∀ b [Later b W], Later b w' := fun b i => ⟨by
  have hb := (i.trans l).below
  refine hb.trans (h.below (fun k hk => ?_) hb.size)
  have := hs k hk; have := i.below.size; omega⟩
theorem Only.boxed (h : Only s w w') {g : Nat} {o : Obj} (hb : w.heap[g]? = some o) (hg : ¬ s g) : w'.heap[g]? = some o := (h.block g (blk_lt hb) hg).trans hb
theorem Only.grown (h : Only s w w') {g : Nat} (hs : ∀ k, s k → k = g) : w.grownBy w' (some g) := ⟨h.os, h.tape, h.output, h.size, fun k hk hn => h.block k hk fun e => hn (by rw [hs k e])⟩
theorem Only.own {α : Type} {f : α → List Value} {z : Nat} {e : TypeId} {base : Nat} {v : Value} {l : List α} (h : Only s w w') (ho : Own f z e base w v l) (hs : ∀ g, v.ownBlock = some g → ¬ s g) : Own f z e base w' v l := by
  refine ⟨ho.1, ?_⟩
  rcases ho.2 with h0 | ⟨g, cap, cur, hv, hg, hc, rest⟩
  · exact .inl h0
  · exact .inr ⟨g, cap, cur, hv, hg, h.boxed hc (hs g (by rw [hv]; rfl)), rest⟩
end
end Go.Proofs.YtjegncmkebbdfaaGreatDoor
