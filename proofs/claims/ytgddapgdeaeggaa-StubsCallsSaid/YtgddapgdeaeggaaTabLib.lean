/-
  Maps that a call made itself, as lists of values whose keys are told by the values: looked up, stored into, deleted from, ranged over. Conditions stand in each theorem.
-/
import Derived.Test.YtgddapgdeaeggaaMapLib
import Derived.Maps.RangeRun
import Derived.Maps.RangeWalk
import Derived.Sort.MapsRangeIn
namespace Go.Proofs.Ytgddapgdeaeggaa
open Go.RowKit

section
variable {κ α : Type}
def entsL (fk : κ → Value) (fv : α → Value) (kf : α → κ) (l : List α) (bs : List Nat) : List MapEntry := List.zipWith (fun x b => { key := fk (kf x), val := fv x, born := b }) l bs
def findK [DecidableEq κ] (kf : α → κ) (l : List α) (k : κ) : Option α := l.find? fun x => decide (kf x = k)
def putK [DecidableEq κ] (kf : α → κ) (l : List α) (v : α) : List α := if (l.any fun x => decide (kf x = kf v)) then l.map (fun x => if kf x = kf v then v else x) else l ++ [v]
def remK [DecidableEq κ] (kf : α → κ) (l : List α) (k : κ) : List α := l.filter fun x => !decide (kf x = k)
/-- Block g is a map that holds the values l, each at its own key. -/
def MapL (fk : κ → Value) (fv : α → Value) (kf : α → κ) (w : World) (g : Nat) (l : List α) : Prop :=
  ∃ (bs : List Nat) (clock : Nat), w.heap[g]? = some (.map (entsL fk fv kf l bs).toArray clock) ∧ bs.length = l.length ∧ bs.Nodup ∧ (∀ b ∈ bs, b < clock) ∧ (l.map kf).Nodup
variable {fk : κ → Value} {fv : α → Value} {kf : α → κ} {w w' : World} {g r : Nat} {l : List α} {bs : List Nat}
theorem ents_get (hl : bs.length = l.length) {j : Nat} {e : MapEntry} : (entsL fk fv kf l bs)[j]? = some e ↔ ∃ x b, l[j]? = some x ∧ bs[j]? = some b ∧ e = { key := fk (kf x), val := fv x, born := b } := by
  unfold entsL
  rw [List.getElem?_zipWith]
  cases hx : l[j]? with
  | none => simp
  | some x =>
    cases hb : bs[j]? with
    | none => simp
    | some b => simp [eq_comm]
theorem ents_mem (hl : bs.length = l.length) {e : MapEntry} : e ∈ entsL fk fv kf l bs ↔ ∃ (j : Nat) (x : α) (b : Nat), l[j]? = some x ∧ bs[j]? = some b ∧ e = { key := fk (kf x), val := fv x, born := b } := by
  constructor
  · intro h
    obtain ⟨j, hj⟩ := List.getElem?_of_mem h
    exact ⟨j, (ents_get hl).1 hj⟩
  · rintro ⟨j, h⟩
    exact List.mem_of_getElem? ((ents_get hl).2 h)
theorem ents_length (hl : bs.length = l.length) : (entsL fk fv kf l bs).length = l.length := by simp [entsL, hl]
theorem ents_born (hl : bs.length = l.length) : (entsL fk fv kf l bs).map (·.born) = bs := by
  apply List.ext_getElem?
  intro i
  rw [List.getElem?_map]
  cases hb : bs[i]? with
  | none =>
    have : (entsL fk fv kf l bs)[i]? = none := List.getElem?_eq_none (by rw [ents_length hl, ← hl]; exact List.getElem?_eq_none_iff.1 hb)
    rw [this]; rfl
  | some b =>
    have hi := (List.getElem?_eq_some_iff.1 hb).1
    have hx : l[i]? = some (l[i]'(by omega)) := List.getElem?_eq_getElem _
    rw [(ents_get (fk := fk) (fv := fv) (kf := kf) hl).2 ⟨_, b, hx, hb, rfl⟩]; rfl
theorem MapL.lt (h : MapL fk fv kf w g l) : g < w.heap.size := by
  obtain ⟨bs, c, hb, _⟩ := h
  exact blk_lt hb
theorem MapL.nodup (h : MapL fk fv kf w g l) : (l.map kf).Nodup := by obtain ⟨bs, c, _, _, _, _, h⟩ := h; exact h
theorem MapL.of_heap (h : MapL fk fv kf w g l) (hb : w'.heap[g]? = w.heap[g]?) : MapL fk fv kf w' g l := by
  obtain ⟨bs, c, h1, h2⟩ := h
  exact ⟨bs, c, hb.trans h1, h2⟩
theorem MapL.below (h : MapL fk fv kf w g l) (hb : Below w.heap.size w w') : MapL fk fv kf w' g l := h.of_heap (hb.block g h.lt)
theorem MapL.later (h : MapL fk fv kf w g l) : ∀ u [Later w u], MapL fk fv kf u g l := fun _ i => h.below i.below
theorem MapL.kept {row : Option Nat} (h : MapL fk fv kf w g l) (hg : w.grownBy w' row) (hne : row ≠ some g) : MapL fk fv kf w' g l := h.of_heap (hg.block g h.lt (fun e => hne e.symm))
theorem mapL_made (w : World) : MapL fk fv kf (w.alloc (.map #[] 0)) w.heap.size [] := ⟨[], 0, heap_alloc_new w _, rfl, List.nodup_nil, by simp, List.nodup_nil⟩
theorem nodup_at {l : List α} (h : (l.map kf).Nodup) {i j : Nat} {x y : α} (hx : l[i]? = some x) (hy : l[j]? = some y) (he : kf x = kf y) : i = j := by
  have hp : l.Pairwise fun a b => kf a ≠ kf b := List.pairwise_map.1 h
  have hi := List.getElem?_eq_some_iff.1 hx
  have hj := List.getElem?_eq_some_iff.1 hy
  obtain ⟨hi1, hi2⟩ := hi
  obtain ⟨hj1, hj2⟩ := hj
  rcases Nat.lt_trichotomy i j with hlt | heq | hgt
  · have := List.pairwise_iff_getElem.1 hp i j hi1 hj1 hlt
    rw [hi2, hj2] at this; exact absurd he this
  · exact heq
  · have := List.pairwise_iff_getElem.1 hp j i hj1 hi1 hgt
    rw [hi2, hj2] at this; exact absurd he.symm this
theorem nodup_at' {l : List Nat} (h : l.Nodup) {i j : Nat} {x : Nat} (hx : l[i]? = some x) (hy : l[j]? = some x) : i = j := nodup_at (kf := id) (by simpa using h) hx hy rfl
section
variable [DecidableEq κ]
/-- Where the key stands, and that no other does: in each world. -/
theorem MapL.find {P : Program} {kt : TypeId} (L : KeyL P kt fk) (hl : bs.length = l.length) (hn : (l.map kf).Nodup) (k : κ) :
    ((∀ u : World, (Instr.findKey kt (fk k) (entsL fk fv kf l bs)).run P u = .ok none u) ∧ ∀ x ∈ l, kf x ≠ k) ∨
    ∃ (j : Nat) (x : α), (∀ u : World, (Instr.findKey kt (fk k) (entsL fk fv kf l bs)).run P u = .ok (some (j, fv x)) u) ∧ l[j]? = some x ∧ kf x = k := by
  have hks : ∀ e ∈ entsL fk fv kf l bs, ∃ b, e.key = fk b := fun e he => by
    obtain ⟨j, x, b, _, _, rfl⟩ := (ents_mem hl).1 he; exact ⟨kf x, rfl⟩
  by_cases hk : ∃ x ∈ l, kf x = k
  · obtain ⟨x, hx, hkx⟩ := hk
    obtain ⟨j, hj⟩ := List.getElem?_of_mem hx
    refine .inr ⟨j, x, fun u => ?_, hj, hkx⟩
    rcases L.find u k _ hks with ⟨_, e2⟩ | ⟨j', e, e1, e2, e3⟩
    · obtain ⟨b, hb⟩ : ∃ b, bs[j]? = some b := ⟨_, List.getElem?_eq_getElem (by rw [hl]; exact (List.getElem?_eq_some_iff.1 hj).1)⟩
      exact absurd (congrArg fk hkx) (e2 _ ((ents_mem hl).2 ⟨j, x, b, hj, hb, rfl⟩))
    · obtain ⟨x', b', hx', hb', rfl⟩ := (ents_get hl).1 e2
      have hkk : kf x' = k := L.inj _ _ e3
      have hjj : j' = j := nodup_at hn hx' hj (hkk.trans hkx.symm)
      subst hjj
      rw [hj] at hx'; injection hx' with hx'; subst hx'
      exact e1
  · have hno : ∀ x ∈ l, kf x ≠ k := fun x hx h => hk ⟨x, hx, h⟩
    refine .inl ⟨fun u => ?_, hno⟩
    rcases L.find u k _ hks with ⟨e1, _⟩ | ⟨j', e, _, e2, e3⟩
    · exact e1
    · obtain ⟨x', b', hx', _, rfl⟩ := (ents_get hl).1 e2
      exact absurd (L.inj _ _ e3) (hno x' (List.mem_of_getElem? hx'))
theorem findK_none {k : κ} (h : ∀ x ∈ l, kf x ≠ k) : findK kf l k = none := by
  unfold findK
  rw [List.find?_eq_none]
  intro x hx; simpa using h x hx
theorem findK_at (hn : (l.map kf).Nodup) {j : Nat} {x : α} {k : κ} (hx : l[j]? = some x) (hk : kf x = k) : findK kf l k = some x := by
  unfold findK
  cases h : l.find? fun x => decide (kf x = k) with
  | none => rw [List.find?_eq_none] at h; exact absurd hk (by simpa using h x (List.mem_of_getElem? hx))
  | some y =>
    have hy := List.mem_of_find?_eq_some h
    obtain ⟨i, hi⟩ := List.getElem?_of_mem hy
    have hky : kf y = k := by simpa using List.find?_some h
    have := nodup_at hn hi hx (hky.trans hk.symm)
    subst this
    rw [hx] at hi; rw [hi]
theorem run_lookL {P : Program} {kt et t : TypeId} (L : KeyL P kt fk) (ht : P.underlying t = some (.map kt et)) {z : Value} (hz : ∀ w, (zeroValue et).run P w = .ok z w) (h : MapL fk fv kf w g l) (k : κ) :
    (Instr.lookup t (.map (some g)) (fk k) true).run P w = .ok (.tuple #[(findK kf l k).elim z fv, .bool (findK kf l k).isSome]) w := by
  obtain ⟨bs, c, hb, hl, h1, h2, h3⟩ := h
  rcases MapL.find (fv := fv) (kf := kf) L hl h3 k with ⟨e1, e2⟩ | ⟨j, x, e1, e2, e3⟩
  · simp [Instr.lookup, run_underlying ht, MapKept.run_getObj_map hb, L.check, e1, hz, Result.andThen, findK_none e2]
  · simp [Instr.lookup, run_underlying ht, MapKept.run_getObj_map hb, L.check, e1, Result.andThen, findK_at h3 e2 e3]
theorem putK_new {v : α} (h : ∀ x ∈ l, kf x ≠ kf v) : putK kf l v = l ++ [v] := by
  unfold putK
  rw [if_neg]
  simpa using h
theorem putK_old (hn : (l.map kf).Nodup) {j : Nat} {x v : α} (hx : l[j]? = some x) (hk : kf x = kf v) : putK kf l v = l.set j v := by
  unfold putK
  rw [if_pos (List.any_eq_true.2 ⟨x, List.mem_of_getElem? hx, by simpa using hk⟩)]
  apply List.ext_getElem?
  intro i
  rw [List.getElem?_map]
  by_cases hij : j = i
  · subst hij
    rw [List.getElem?_set_self (List.getElem?_eq_some_iff.1 hx).1, hx]; simp [hk]
  · rw [List.getElem?_set_ne hij]
    cases hi : l[i]? with
    | none => rfl
    | some y =>
      have : ¬ kf y = kf v := fun e => hij (nodup_at hn hx hi (hk.trans e.symm))
      simp [this]
theorem putK_keys (hn : (l.map kf).Nodup) {v : α} : ((putK kf l v).map kf).Nodup := by
  by_cases h : ∃ x ∈ l, kf x = kf v
  · obtain ⟨x, hx, hk⟩ := h
    obtain ⟨j, hj⟩ := List.getElem?_of_mem hx
    rw [putK_old hn hj hk]
    have : (l.set j v).map kf = l.map kf := by
      apply List.ext_getElem?
      intro i
      rw [List.getElem?_map, List.getElem?_map]
      by_cases hij : j = i
      · subst hij
        rw [List.getElem?_set_self (List.getElem?_eq_some_iff.1 hj).1, hj]; simp [hk]
      · rw [List.getElem?_set_ne hij]
    rw [this]; exact hn
  · have hno : ∀ x ∈ l, kf x ≠ kf v := fun x hx e => h ⟨x, hx, e⟩
    rw [putK_new hno, List.map_append]
    refine List.nodup_append.2 ⟨hn, by simp, fun a ha b hb => ?_⟩
    obtain ⟨x, hx, rfl⟩ := List.mem_map.1 ha
    simp at hb
    rw [hb]; exact hno x hx
/-- m[k] = v, v at its own key: the run in each later world; what the map is then. -/
theorem run_putL {P : Program} {kt et t : TypeId} (L : KeyL P kt fk) (ht : P.underlying t = some (.map kt et)) (h : MapL fk fv kf w g l) (v : α) : ∃ o : Obj,
    (∀ (u : World) [Later w u], (Instr.mapUpdate t (.map (some g)) (fk (kf v)) (fv v)).run P u = .ok () (putAt u g o)) ∧ (∀ (u : World) [Later w u], MapL fk fv kf (putAt u g o) g (putK kf l v)) ∧
    (∀ (u : World) [Later w u] a, (putAt u g o).cell? a = u.cell? a) ∧ (∀ (u : World) [Later w u] a, (putAt u g o).frozen? a = u.frozen? a) := by
  obtain ⟨bs, c, hb, hl, h1, h2, h3⟩ := h
  have hget : ∀ (u : World) [Later w u], u.heap[g]? = some (.map (entsL fk fv kf l bs).toArray c) := fun u i => blk_below hb i.below
  have key : ∃ (bs' : List Nat) (c' : Nat), (∀ (u : World) [Later w u], (Instr.mapUpdate t (.map (some g)) (fk (kf v)) (fv v)).run P u = .ok () (putAt u g (.map (entsL fk fv kf (putK kf l v) bs').toArray c'))) ∧ bs'.length = (putK kf l v).length ∧ bs'.Nodup ∧ (∀ b ∈ bs', b < c') := by
    rcases MapL.find (fv := fv) (kf := kf) L hl h3 (kf v) with ⟨e1, e2⟩ | ⟨j, x, e1, e2, e3⟩
    · refine ⟨bs ++ [c], c + 1, fun u i => ?_, by rw [putK_new e2]; simp [hl], ?_, ?_⟩
      · have : (entsL fk fv kf l bs).toArray.push { key := fk (kf v), val := fv v, born := c } = (entsL fk fv kf (putK kf l v) (bs ++ [c])).toArray := by
          rw [putK_new e2]
          simp [entsL, List.zipWith_append hl.symm]
        simp [Instr.mapUpdate, run_underlying ht, MapKept.run_getObj_map (hget u), L.check, e1, Result.andThen, MapKept.run_setObj_map _ (hget u), putAt, ← this]
      · refine List.nodup_append.2 ⟨h1, by simp, fun a ha b hb => ?_⟩
        simp at hb; have := h2 a ha; omega
      · intro b hb
        rcases List.mem_append.1 hb with hb | hb
        · have := h2 b hb; omega
        · simp at hb; omega
    · refine ⟨bs, c, fun u i => ?_, by rw [putK_old h3 e2 e3, List.length_set]; exact hl, h1, h2⟩
      obtain ⟨b, hbj⟩ : ∃ b, bs[j]? = some b := ⟨_, List.getElem?_eq_getElem (by rw [hl]; exact (List.getElem?_eq_some_iff.1 e2).1)⟩
      have hej := (ents_get (fk := fk) (fv := fv) (kf := kf) hl).2 ⟨x, b, e2, hbj, rfl⟩
      have : (entsL fk fv kf l bs).toArray.modify j (fun e => { e with key := fk (kf v), val := fv v }) = (entsL fk fv kf (putK kf l v) bs).toArray := by
        apply Array.ext_getElem?
        intro i
        rw [Array.getElem?_modify, putK_old h3 e2 e3, List.getElem?_toArray, List.getElem?_toArray]
        by_cases hij : j = i
        · subst hij
          rw [if_pos rfl, hej, (ents_get (fk := fk) (fv := fv) (kf := kf) (by rw [List.length_set]; exact hl)).2 ⟨v, b, List.getElem?_set_self (List.getElem?_eq_some_iff.1 e2).1, hbj, rfl⟩]
          rfl
        · rw [if_neg hij]
          cases hi : (entsL fk fv kf l bs)[i]? with
          | none =>
            symm
            rw [List.getElem?_eq_none_iff] at hi ⊢
            rw [ents_length (by rw [List.length_set]; exact hl), List.length_set]
            rw [ents_length hl] at hi; exact hi
          | some e =>
            obtain ⟨x', b', hx', hb', rfl⟩ := (ents_get hl).1 hi
            symm
            exact (ents_get (by rw [List.length_set]; exact hl)).2 ⟨x', b', by rw [List.getElem?_set_ne hij]; exact hx', hb', rfl⟩
      simp [Instr.mapUpdate, run_underlying ht, MapKept.run_getObj_map (hget u), L.check, e1, Result.andThen, hej, e3, L.stays, MapKept.run_setObj_map _ (hget u), putAt, ← this]
  obtain ⟨bs', c', k1, k2, k3, k4⟩ := key
  refine ⟨_, k1, fun u i => ⟨bs', c', ?_, k2, k3, k4, putK_keys h3⟩, fun u i a => ?_, fun u i a => ?_⟩
  · unfold putAt
    rw [Array.getElem?_setIfInBounds, if_pos rfl, if_pos (blk_lt (hget u))]
  · have hu := hget u
    have hlt := blk_lt hu
    unfold World.cell? putAt
    by_cases hga : g = a.block
    · rw [← hga, hu]; simp [hlt]
    · simp [hga]
  · have hu := hget u
    have hlt := blk_lt hu
    unfold World.frozen? putAt
    by_cases hga : g = a.block
    · rw [← hga, hu]; simp [hlt]
    · simp [hga]
/-- delete(m, k). -/
theorem run_remL {P : Program} {kt et t ty : TypeId} (L : KeyL P kt fk) (ht : P.underlying t = some (.map kt et)) (h : MapL fk fv kf w g l) (k : κ) : ∃ o : Obj,
    (∀ (u : World) [Later w u], (Builtin.delete_ #[t, kt] ty #[.map (some g), fk k]).run P u = .ok (.tuple #[]) (putAt u g o)) ∧ (∀ (u : World) [Later w u], MapL fk fv kf (putAt u g o) g (remK kf l k)) := by
  obtain ⟨bs, c, hb, hl, h1, h2, h3⟩ := h
  have hget : ∀ (u : World) [Later w u], u.heap[g]? = some (.map (entsL fk fv kf l bs).toArray c) := fun u i => blk_below hb i.below
  rcases MapL.find (fv := fv) (kf := kf) L hl h3 k with ⟨e1, e2⟩ | ⟨j, x, e1, e2, e3⟩
  · refine ⟨.map (entsL fk fv kf l bs).toArray c, fun u i => ?_, fun u i => ⟨bs, c, ?_, ?_, h1, h2, ?_⟩⟩
    · simp [Builtin.delete_, run_underlying ht, MapKept.run_getObj_map (hget u), L.check, e1, Result.andThen, MapKept.run_setObj_map _ (hget u), putAt]
    · have : remK kf l k = l := List.filter_eq_self.2 fun x hx => by simpa using e2 x hx
      rw [this]; unfold putAt
      rw [Array.getElem?_setIfInBounds, if_pos rfl, if_pos (blk_lt (hget u))]
    · have : remK kf l k = l := List.filter_eq_self.2 fun x hx => by simpa using e2 x hx
      rw [this]; exact hl
    · have : remK kf l k = l := List.filter_eq_self.2 fun x hx => by simpa using e2 x hx
      rw [this]; exact h3
  · have hr : remK kf l k = l.eraseIdx j := by
      have hj := (List.getElem?_eq_some_iff.1 e2)
      obtain ⟨hj1, hj2⟩ := hj
      have hsp : l = l.take j ++ x :: l.drop (j + 1) := by rw [← hj2, List.getElem_cons_drop, List.take_append_drop]
      rw [List.eraseIdx_eq_take_drop_succ]
      unfold remK
      conv => lhs; rw [hsp]
      rw [List.filter_append, List.filter_cons]
      simp only [e3, decide_true, Bool.not_true, Bool.false_eq_true, if_false]
      congr 1
      · refine List.filter_eq_self.2 fun y hy => ?_
        obtain ⟨i, hi⟩ := List.getElem?_of_mem hy
        rw [List.getElem?_take] at hi
        split at hi
        · rename_i hij
          have : kf y ≠ k := fun e => by have := nodup_at h3 hi e2 (e.trans e3.symm); omega
          simpa using this
        · cases hi
      · refine List.filter_eq_self.2 fun y hy => ?_
        obtain ⟨i, hi⟩ := List.getElem?_of_mem hy
        rw [List.getElem?_drop] at hi
        have : kf y ≠ k := fun e => by have := nodup_at h3 hi e2 (e.trans e3.symm); omega
        simpa using this
    have hjl : j < l.length := (List.getElem?_eq_some_iff.1 e2).1
    have hea : ∀ (l : List α) (bs : List Nat) (j : Nat), bs.length = l.length → (entsL fk fv kf l bs).eraseIdx j = entsL fk fv kf (l.eraseIdx j) (bs.eraseIdx j) := by
      intro l
      induction l with
      | nil => intro bs j h; simp [entsL]
      | cons y l ih =>
        intro bs j h
        cases bs with
        | nil => simp at h
        | cons b bs =>
          cases j with
          | zero => simp [entsL]
          | succ j =>
            have := ih bs j (by simpa using h)
            simp only [entsL] at this
            simp [entsL, this]
    refine ⟨.map (entsL fk fv kf (l.eraseIdx j) (bs.eraseIdx j)).toArray c, fun u i => ?_, fun u i => ⟨bs.eraseIdx j, c, ?_, ?_, ?_, ?_, ?_⟩⟩
    · simp [Builtin.delete_, run_underlying ht, MapKept.run_getObj_map (hget u), L.check, e1, Result.andThen, MapKept.run_setObj_map _ (hget u), putAt, hea l bs j hl]
    · rw [hr]; unfold putAt
      rw [Array.getElem?_setIfInBounds, if_pos rfl, if_pos (blk_lt (hget u))]
    · rw [hr, List.length_eraseIdx, List.length_eraseIdx, hl]
    · exact h1.sublist (List.eraseIdx_sublist ..)
    · intro b hb'; exact h2 b ((List.eraseIdx_sublist ..).subset hb')
    · rw [hr]; exact h3.sublist ((List.eraseIdx_sublist ..).map kf)
end
end
end Go.Proofs.Ytgddapgdeaeggaa
