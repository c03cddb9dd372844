/-
  Slices that a call has made itself, as lists of structs: what they are, kept, stored into, appended to. No condition.
-/
import Derived.Test.YtnfpbkimdhhmfaaLib
import Derived.Maps.AppendAt
namespace Go.Proofs.Ytnfpbkimdhhmfaa
open Go.RowKit

structure Enc {α : Type} (f : α → List Value) (s : Nat) : Prop where
  len : ∀ x, (f x).length = s
  one : ∀ x, ∀ u ∈ f x, u.oneCell' = true
  pos : 0 < s
structure ElemT (P : Program) (t e : TypeId) (s bytes : Nat) : Prop where
  slice : P.underlying t = some (.slice e)
  info : ∃ i z, P.info? e = some i ∧ i.zero = some z ∧ i.size = s ∧ i.bytes = bytes ∧ z.cells.size = s
theorem ElemT.mk' {P : Program} {t e : TypeId} {s bytes : Nat} {z : Value} (h : P.underlying t = some (.slice e)) (hi : (P.info? e).map (fun i => (i.zero, i.size, i.bytes)) = some (some z, s, bytes)) (hz : z.cells.size = s) : ElemT P t e s bytes := by
  obtain ⟨i, a, b, c, d⟩ := info_parts hi
  exact ⟨h, i, z, a, b, c, d, hz⟩

section
variable {α : Type} {f : α → List Value} {s : Nat}
theorem Enc.flat_length (he : Enc f s) (l : List α) : (l.flatMap f).length = l.length * s := by
  induction l with
  | nil => simp
  | cons x l ih => rw [List.flatMap_cons, List.length_append, ih, he.len, List.length_cons, Nat.succ_mul, Nat.add_comm]
theorem Enc.flat_get (he : Enc f s) (l : List α) (k j : Nat) (x : α) (hk : l[k]? = some x) (hj : j < s) : (l.flatMap f)[k * s + j]? = (f x)[j]? := by
  induction l generalizing k with
  | nil => simp at hk
  | cons y l ih =>
    rw [List.flatMap_cons]
    cases k with
    | zero =>
      simp at hk; subst hk
      rw [List.getElem?_append_left (by rw [he.len]; omega)]; simp
    | succ k =>
      rw [List.getElem?_append_right (by rw [he.len, Nat.succ_mul]; omega), he.len]
      rw [show (k + 1) * s + j - s = k * s + j by rw [Nat.succ_mul]; omega]
      exact ih k (by simpa using hk)
theorem Enc.flat_set (he : Enc f s) (l : List α) (k j : Nat) (x x' : α) (u : Value) (hk : l[k]? = some x) (hj : j < s) (hf : f x' = (f x).set j u) : (l.flatMap f).set (k * s + j) u = (l.set k x').flatMap f := by
  induction l generalizing k with
  | nil => simp at hk
  | cons y l ih =>
    cases k with
    | zero =>
      simp at hk; subst hk
      rw [List.set_cons_zero, List.flatMap_cons, List.flatMap_cons, List.set_append_left _ _ (by rw [he.len]; omega), hf]
      simp
    | succ k =>
      rw [List.set_cons_succ, List.flatMap_cons, List.flatMap_cons, List.set_append_right _ _ (by rw [he.len, Nat.succ_mul]; omega), he.len]
      rw [show (k + 1) * s + j - s = k * s + j by rw [Nat.succ_mul]; omega, ih k (by simpa using hk)]
theorem Enc.flat_one (he : Enc f s) (l : List α) : ∀ u ∈ l.flatMap f, u.oneCell' = true := by
  intro u hu
  obtain ⟨x, _, hx⟩ := List.mem_flatMap.1 hu
  exact he.one x u hx
theorem Enc.slAt (he : Enc f s) {w : World} {l : List α} {b off : Nat} (hb : b < w.heap.size) (h : ∀ j u, (l.flatMap f)[j]? = some u → w.cell? ⟨b, off + j, none⟩ = some u) : SlAt f s w (some ⟨b, off, none⟩) l := fun _ =>
  ⟨b, off, rfl, hb, fun k x hk j u hu => by
    have hj : j < s := by rw [← he.len x]; exact (List.getElem?_eq_some_iff.1 hu).1
    have := h (k * s + j) u (by rw [he.flat_get l k j x hk hj]; exact hu)
    rw [← Nat.add_assoc] at this
    exact this⟩
theorem Enc.flat (he : Enc f s) {w : World} {l : List α} {A : Option Addr} (h : SlAt f s w A l) (hl : l ≠ []) : ∃ b off, A = some ⟨b, off, none⟩ ∧ b < w.heap.size ∧ ∀ j u, (l.flatMap f)[j]? = some u → w.cell? ((⟨b, off, none⟩ : Addr).add j) = some u := by
  obtain ⟨b, off, e, hb, hc⟩ := h hl
  refine ⟨b, off, e, hb, fun j u hu => ?_⟩
  have hadd : (⟨b, off, none⟩ : Addr).add j = ⟨b, off + j, none⟩ := by unfold Addr.add; split <;> simp_all
  rw [hadd]
  have hjl : j < l.length * s := by rw [← he.flat_length l]; exact (List.getElem?_eq_some_iff.1 hu).1
  have hs := he.pos
  have hk : j / s < l.length := by rw [Nat.div_lt_iff_lt_mul hs]; exact hjl
  have hr : j % s < s := Nat.mod_lt _ hs
  have hje : j / s * s + j % s = j := by rw [Nat.mul_comm]; exact Nat.div_add_mod j s
  have hx := List.getElem?_eq_getElem hk
  have h1 := he.flat_get l (j / s) (j % s) _ hx hr
  rw [hje, hu] at h1
  have h2 := hc (j / s) _ hx (j % s) u h1.symm
  rw [Nat.add_assoc, hje] at h2
  exact h2

/-- The slice value v, made by the call itself (its block is base or above), holds the list l. -/
def Own (f : α → List Value) (s : Nat) (e : TypeId) (base : Nat) (w : World) (v : Value) (l : List α) : Prop := w.ownsRow base e s v l.length (l.flatMap f)

variable {e : TypeId} {base : Nat} {w w' : World} {v : Value} {l : List α}
theorem Own.nil : Own f s e base w (.slice none 0 0) [] := World.ownsRow_nil w base e s
theorem Own.empty (hb : base ≤ w.heap.size) : Own f s e base (w.alloc (.cells #[] e)) (.slice (some ⟨w.heap.size, 0, none⟩) 0 0) ([] : List α) :=
  World.ownsRow_made w #[] 0 hb (by simp [maxLen]) (by simp)
theorem Own.belowGrown {w0 : World} {B : Nat} {w' : World} (h : Own f s e base w v l) (hb : Below B w0 w) (hg : w.grownBy w' v.ownBlock) (hB : B ≤ base) (hw : B ≤ w.heap.size) : Below B w0 w' :=
  hb.grown hg hw fun k hk => Nat.le_trans hB (World.ownsRow.lt h k hk).1
theorem Own.form (h : Own f s e base w v l) : (v = .slice none 0 0 ∧ l = []) ∨ ∃ g cap, v = .slice (some ⟨g, 0, none⟩) l.length cap ∧ base ≤ g ∧ g < w.heap.size ∧ l.length ≤ cap ∧ cap ≤ maxLen := by
  rcases h.2 with ⟨hv, h0⟩ | ⟨g, cap, cur, hv, hb, hg, hc, hm, _⟩
  · exact .inl ⟨hv, List.eq_nil_of_length_eq_zero h0⟩
  · exact .inr ⟨g, cap, hv, hb, (Array.getElem?_eq_some_iff.1 hg).1, hc, hm⟩
theorem Own.slAt (h : Own f s e base w v l) (he : Enc f s) : ∃ A c, v = .slice A l.length c ∧ l.length ≤ c ∧ c ≤ maxLen ∧ SlAt f s w A l := by
  rcases h.form with ⟨rfl, rfl⟩ | ⟨g, cap, rfl, hb, hg, hc, hm⟩
  · exact ⟨none, 0, rfl, by simp, by simp, SlAt.nil⟩
  · refine ⟨_, cap, rfl, hc, hm, he.slAt hg fun j u hu => ?_⟩
    have := h.cells (g := g) rfl j u hu
    have hadd : (⟨g, 0, none⟩ : Addr).add j = ⟨g, j, none⟩ := by unfold Addr.add; split <;> simp_all
    rw [hadd] at this
    simpa using this
theorem Own.at_ {A : Option Addr} {n c : Nat} (h : Own f s e base w (.slice A n c) l) (he : Enc f s) : n = l.length ∧ l.length ≤ c ∧ SlAt f s w A l := by
  obtain ⟨A', c', hv, hc, _, hs⟩ := h.slAt he
  injection hv with h1 h2 h3
  subst h1 h2 h3
  exact ⟨rfl, hc, hs⟩
theorem Own.isSome {A : Option Addr} {n c : Nat} (h : Own f s e base w (.slice A n c) l) (hl : l ≠ []) : ∃ g, A = some ⟨g, 0, none⟩ := by
  rcases h.form with ⟨_, h0⟩ | ⟨g, cap, hv, _⟩
  · exact absurd h0 hl
  · injection hv with h1
    exact ⟨g, h1⟩
theorem grown_below (hb : Below w.heap.size w w') (row : Option Nat) : w.grownBy w' row := ⟨hb.os, hb.tape, hb.output, hb.size, fun k hk _ => hb.block k hk⟩
theorem Own.below (h : Own f s e base w v l) (hb : Below w.heap.size w w') : Own f s e base w' v l :=
  World.ownsRow.kept h (grown_below hb none) (by cases v.ownBlock <;> simp)
theorem Own.mono {base' : Nat} (h : Own f s e base w v l) (hb : base' ≤ base) : Own f s e base' w v l := by
  refine ⟨h.1, ?_⟩
  rcases h.2 with h0 | ⟨g, cap, cur, hv, hg, rest⟩
  · exact .inl h0
  · exact .inr ⟨g, cap, cur, hv, Nat.le_trans hb hg, rest⟩
theorem Own.kept {row : Option Nat} (h : Own f s e base w v l) (hg : w.grownBy w' row) (hne : v.ownBlock = none ∨ v.ownBlock ≠ row) : Own f s e base w' v l := World.ownsRow.kept h hg hne
theorem grown_setCell (w : World) (p : Addr) (u : Value) : w.grownBy (w.setCell p u) (some p.block) :=
  ⟨rfl, rfl, rfl, by simp [World.setCell], fun k _ hk => Below.heap_setCell w p u k (fun e => hk (by rw [e]))⟩
theorem Own.far (h : Own f s e base w v l) {p : Addr} (hne : v.ownBlock ≠ some p.block) (u : Value) : Own f s e base (w.setCell p u) v l := h.kept (grown_setCell w p u) (.inr hne)
theorem Own.len {g cap n : Nat} (h : Own f s e base w (.slice (some ⟨g, 0, none⟩) n cap) l) : n = l.length := by
  rcases h.form with ⟨h0, _⟩ | ⟨g', cap', hv, _⟩
  · cases h0
  · injection hv
theorem Own.base_le {g cap n : Nat} (h : Own f s e base w (.slice (some ⟨g, 0, none⟩) n cap) l) : base ≤ g := by
  rcases h.form with ⟨h0, _⟩ | ⟨g', cap', hv, hb, _⟩
  · cases h0
  · injection hv with h1; injection h1 with h1; injection h1 with h1; rw [h1]; exact hb
theorem Own.lt {g cap n : Nat} (h : Own f s e base w (.slice (some ⟨g, 0, none⟩) n cap) l) : g < w.heap.size := by
  rcases h.form with ⟨h0, _⟩ | ⟨g', cap', hv, _, hb, _⟩
  · cases h0
  · injection hv with h1; injection h1 with h1; injection h1 with h1; rw [h1]; exact hb
theorem Own.cell {g cap n : Nat} (h : Own f s e base w (.slice (some ⟨g, 0, none⟩) n cap) l) (he : Enc f s) {k : Nat} {x : α} (hk : l[k]? = some x) {j : Nat} {u : Value} (hu : (f x)[j]? = some u) : w.cell? ⟨g, k * s + j, none⟩ = some u := by
  have hj : j < s := by rw [← he.len x]; exact (List.getElem?_eq_some_iff.1 hu).1
  have := World.ownsRow.cells h (g := g) rfl (k * s + j) u (by rw [he.flat_get l k j x hk hj]; exact hu)
  have hadd : (⟨g, 0, none⟩ : Addr).add (k * s + j) = ⟨g, k * s + j, none⟩ := by unfold Addr.add; split <;> simp_all
  rwa [hadd] at this
theorem Own.free {g cap n : Nat} (h : Own f s e base w (.slice (some ⟨g, 0, none⟩) n cap) l) (j : Nat) : w.frozen? ⟨g, j, none⟩ = false := by
  rcases h.2 with ⟨h0, _⟩ | ⟨g', cap', cur, hv, _, hg, _⟩
  · cases h0
  · injection hv with h1
    injection h1 with h1
    injection h1 with h1
    subst h1
    simp [World.frozen?, hg]
theorem Own.store {g cap n : Nat} (h : Own f s e base w (.slice (some ⟨g, 0, none⟩) n cap) l) (he : Enc f s) {k j : Nat} {x x' : α} {u : Value} (hk : l[k]? = some x) (hj : j < s) (hf : f x' = (f x).set j u) :
    Own f s e base (w.setCell ⟨g, k * s + j, none⟩ u) (.slice (some ⟨g, 0, none⟩) n cap) (l.set k x') := by
  have hn := h.len
  subst hn
  have := (World.ownsRow.stored h (k * s + j) u).1
  unfold Own
  rw [← he.flat_set l k j x x' u hk hj hf, List.length_set]
  exact this

theorem run_app {P : Program} {t ty : TypeId} {bytes : Nat} (he : Enc f s) (ht : ElemT P t e s bytes) (hown : Own f s e base w v l) (A : Option Addr) (c : Nat) (l2 : List α) (hsrc : SlAt f s w A l2)
    (hbytes : (l.length + l2.length) * bytes ≤ 140737488355328) (h63 : l.length + l2.length ≤ maxLen) (hbase : base ≤ w.heap.size) :
    ∃ v' w', (Builtin.append_ #[t, t] ty #[v, .slice A l2.length c]).run P w = .ok v' w' ∧ Own f s e base w' v' (l ++ l2) ∧ w.grownBy w' v.ownBlock ∧
      (v'.ownBlock = v.ownBlock ∨ v'.ownBlock = some w.heap.size) := by
  obtain ⟨hsl, i, z, hi, hz, hsize, hby, hzs⟩ := ht
  by_cases hl : l2 = []
  · subst hl
    refine ⟨v, w, ?_, by simpa using hown, World.grownBy.refl w _, .inl rfl⟩
    rcases hown.2 with ⟨rfl, h0⟩ | ⟨g, cap, cur, rfl, _, _, hnc, _⟩
    · cases A <;> simp [Builtin.append_, run_underlying hsl, sizeOf, typeInfo, hi, Builtin.lenOf, Builtin.firstCells, loadCells, loadCellsFrom]
    · cases A <;> simp [Builtin.append_, run_underlying hsl, sizeOf, typeInfo, hi, Builtin.lenOf, Builtin.firstCells, hnc, storeCells, loadCells, loadCellsFrom]
  · obtain ⟨b, off, rfl, hb, hc⟩ := he.flat hsrc hl
    obtain ⟨v', w', hrun, h2, h3, _, h5⟩ := run_append_own_at (P := P) w base t ty e i z s bytes hsl hi hz hsize hby hzs he.pos v l.length (l.flatMap f) hown ⟨b, off, none⟩ l2.length c (l2.flatMap f) (he.flat_length l2) hc (he.flat_one l2) h63 hbytes hbase
    refine ⟨v', w', hrun, ?_, h3, h5⟩
    unfold Own
    rw [List.length_append, List.flatMap_append]
    exact h2
theorem wpList_app {P : Program} {t : TypeId} {bytes : Nat} {ops : Array Oper} {rest : List Oper} {o : Oper} {a : Act} {Q : Exit → Act → World → Prop} (hgd : o.guard = none) (sl x : Operand)
    (ho : o.op = .call { callee := .builtin .append, args := #[sl, x], argTypes := #[t, t] }) (he : Enc f s) (ht : ElemT P t e s bytes) (hown : Own f s e base w v l) (A : Option Addr) (c : Nat) (l2 : List α) (hsrc : SlAt f s w A l2)
    (hs : a.eval sl = v) (hx : a.eval x = .slice A l2.length c)
    (hbytes : (l.length + l2.length) * bytes ≤ 140737488355328) (h63 : l.length + l2.length ≤ maxLen) (hbase : base ≤ w.heap.size)
    (h : ∀ v' w', Own f s e base w' v' (l ++ l2) → w.grownBy w' v.ownBlock → (v'.ownBlock = v.ownBlock ∨ v'.ownBlock = some w.heap.size) → wpList P ops Q rest (a.put o.dst v') w') : wpList P ops Q (o :: rest) a w :=
  wpList_plain hgd fun K hK => by
    obtain ⟨v', w', hrun, h2, h3, h4⟩ := run_app (P := P) (ty := o.type) he ht hown A c l2 hsrc hbytes h63 hbase
    unfold Oper.wp execOp
    simp only [ho, resolve, invoke, builtin, Sem.run_bind, Sem.run_pure, Result.andThen_ok, List.map_toArray, List.map_cons, List.map_nil, hs, hx, hrun]
    exact hK _ _ (h v' w' h2 h3 h4)
end
end Go.Proofs.Ytnfpbkimdhhmfaa
