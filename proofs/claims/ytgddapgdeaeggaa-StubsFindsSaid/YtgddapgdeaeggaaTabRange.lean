/-
  A range over a map that is held as a list of values. Conditions stand in each theorem.
-/
import Derived.Test.YtgddapgdeaeggaaTabLib
import Derived.RangeFuncSeq
namespace Go.Proofs.Ytgddapgdeaeggaa
open Go.RowKit
section
variable {κ α : Type} {fk : κ → Value} {fv : α → Value} {kf : α → κ} {w w' : World} {g r : Nat} {l : List α} {idxs : List Nat}
/-- Block r ranges over the map in block g, which holds l; those at idxs have come. -/
def RangeL (fk : κ → Value) (fv : α → Value) (kf : α → κ) (w : World) (g r : Nat) (l : List α) (idxs : List Nat) : Prop :=
  ∃ (bs : List Nat) (clock since : Nat) (seen : Array Nat) (c0 : Nat), w.heap[g]? = some (.map (entsL fk fv kf l bs).toArray clock) ∧ bs.length = l.length ∧ bs.Nodup ∧ (∀ b ∈ bs, b < clock) ∧ (l.map kf).Nodup ∧
    w.heap[r]? = some (.mapIter (some g) since seen c0) ∧ since ≤ c0 ∧ since ≤ clock ∧ (∀ b ∈ bs, b < since) ∧ idxs.Nodup ∧ (∀ i ∈ idxs, i < l.length) ∧ (∀ (i b : Nat), bs[i]? = some b → (seen.contains b = true ↔ i ∈ idxs)) ∧ seen.size = idxs.length
def pickL (l : List α) (idxs : List Nat) : List α := idxs.filterMap fun i => l[i]?
theorem RangeL.mapL (h : RangeL fk fv kf w g r l idxs) : MapL fk fv kf w g l := by
  obtain ⟨bs, c, s, sn, c0, h1, h2, h3, h4, h5, _⟩ := h
  exact ⟨bs, c, h1, h2, h3, h4, h5⟩
theorem RangeL.lt (h : RangeL fk fv kf w g r l idxs) : g < w.heap.size ∧ r < w.heap.size ∧ g ≠ r := by
  obtain ⟨bs, c, s, sn, c0, h1, h2, h3, h4, h5, h6, _⟩ := h
  exact ⟨blk_lt h1, blk_lt h6, fun e => by rw [e, h6] at h1; cases h1⟩
theorem RangeL.of_heap (h : RangeL fk fv kf w g r l idxs) (hg : w'.heap[g]? = w.heap[g]?) (hr : w'.heap[r]? = w.heap[r]?) : RangeL fk fv kf w' g r l idxs := by
  obtain ⟨bs, c, s, sn, c0, h1, h2, h3, h4, h5, h6, h7⟩ := h
  exact ⟨bs, c, s, sn, c0, hg.trans h1, h2, h3, h4, h5, hr.trans h6, h7⟩
theorem RangeL.below (h : RangeL fk fv kf w g r l idxs) (hb : Below w.heap.size w w') : RangeL fk fv kf w' g r l idxs := h.of_heap (hb.block g h.lt.1) (hb.block r h.lt.2.1)
theorem RangeL.later (h : RangeL fk fv kf w g r l idxs) : ∀ u [Later w u], RangeL fk fv kf u g r l idxs := fun _ i => h.below i.below
theorem RangeL.of_walks (h : RangeL fk fv kf w g r l idxs) (hk : KeepsWalks w w') : RangeL fk fv kf w' g r l idxs := by
  obtain ⟨bs, c, s, sn, c0, h1, h2, h3, h4, h5, h6, h7⟩ := h
  exact ⟨bs, c, s, sn, c0, hk.same g _ h1 rfl, h2, h3, h4, h5, hk.same r _ h6 rfl, h7⟩
theorem RangeL.iter (h : RangeL fk fv kf w g r l idxs) : ∃ o : Obj, w.heap[r]? = some o ∧ o.isWalk = true := by
  obtain ⟨bs, c, s, sn, c0, h1, h2, h3, h4, h5, h6, h7⟩ := h
  exact ⟨_, h6, rfl⟩
/-- range m. -/
theorem MapL.range {P : Program} {t kt et : TypeId} (ht : P.underlying t = some (.map kt et)) (h : MapL fk fv kf w g l) : ∃ w', (Instr.range t (.map (some g))).run P w = .ok (.pointer (some ⟨w.heap.size, 0, none⟩)) w' ∧ RangeL fk fv kf w' g w.heap.size l [] ∧ w.grownBy w' none ∧ w'.heap.size = w.heap.size + 1 ∧ Below w.heap.size w w' := by
  obtain ⟨bs, c, hb, hl, h1, h2, h3⟩ := h
  refine ⟨w.alloc (.mapIter (some g) c #[] c), run_range_map w t kt et g _ c ht hb, ⟨bs, c, c, #[], c, ?_, hl, h1, h2, h3, heap_alloc_new _ _, Nat.le_refl _, Nat.le_refl _, h2, List.nodup_nil, by simp, by simp, rfl⟩, World.grownBy_alloc _ _ _, by simp, (Below.refl _ _).alloc (Nat.le_refl _) _⟩
  rw [heap_alloc_old w _ (blk_lt hb)]; exact hb
theorem leftOf_mem {l : List α} {bs : List Nat} {seen : Array Nat} {e : MapEntry} (hl : bs.length = l.length) (he : e ∈ (leftOf (entsL fk fv kf l bs).toArray seen).toList) : ∃ (i : Nat) (x : α) (b : Nat), l[i]? = some x ∧ bs[i]? = some b ∧ e = { key := fk (kf x), val := fv x, born := b } ∧ seen.contains b = false := by
  obtain ⟨h1, h2⟩ := mem_left he
  obtain ⟨i, x, b, hx, hb, rfl⟩ := (ents_mem hl).1 (by simpa using h1)
  exact ⟨i, x, b, hx, hb, rfl, h2⟩
/-- The step: either all have come, or one that has not comes. -/
theorem RangeL.next {P : Program} (h : RangeL fk fv kf w g r l idxs) (ty : TypeId) :
    ((∀ i, i < l.length → i ∈ idxs) ∧ (Instr.next (.pointer (some ⟨r, 0, none⟩)) false ty).run P w = .ok (.tuple #[.bool false]) w) ∨
    ∃ (i : Nat) (x : α) (w' : World), l[i]? = some x ∧ i ∉ idxs ∧ (Instr.next (.pointer (some ⟨r, 0, none⟩)) false ty).run P w = .ok (.tuple #[.bool true, fk (kf x), fv x]) w' ∧ RangeL fk fv kf w' g r l (idxs ++ [i]) ∧
      (∀ (u : World) [Later w' u], (Instr.entry (.pointer (some ⟨r, 0, none⟩))).run P u = .ok (.tuple #[fk (kf x), fv x]) u) ∧ w.grownBy w' (some r) ∧ w'.heap.size = w.heap.size ∧ ∀ B, B ≤ r → Below B w w' := by
  have hlt := h.lt
  obtain ⟨bs, c, s, sn, c0, h1, h2, h3, h4, h5, h6, h7, h8, h9, h10, h11, h12, h13⟩ := h
  have hold : ∀ x ∈ (entsL fk fv kf l bs).toArray.toList, x.born < s := fun x hx => by
    obtain ⟨i, y, b, _, hb, rfl⟩ := (ents_mem h2).1 (by simpa using hx)
    exact h9 b (List.mem_of_getElem? hb)
  rcases run_next_at w ty r g s c0 sn _ c h6 h1 hold h7 with ⟨e1, e2⟩ | ⟨e, he, w1, hw1, hrun⟩
  · refine .inl ⟨fun i hi => ?_, e2⟩
    have hall := all_seen _ _ e1
    have hx : l[i]? = some l[i] := List.getElem?_eq_getElem hi
    obtain ⟨b, hb⟩ : ∃ b, bs[i]? = some b := ⟨_, List.getElem?_eq_getElem (by rw [h2]; exact hi)⟩
    have := hall { key := fk (kf l[i]), val := fv l[i], born := b } (by simpa using (ents_mem h2).2 ⟨i, _, b, hx, hb, rfl⟩)
    exact (h12 i b hb).1 this
  · obtain ⟨i, x, b, hx, hb, rfl, hs⟩ := leftOf_mem h2 he
    have hi : i ∉ idxs := fun hi => by rw [(h12 i b hb).2 hi] at hs; cases hs
    have hw1h : w1.heap = w.heap := by rcases hw1 with rfl | rfl <;> rfl
    have hgr : (ChangeMaps.setBlock w1 r (.mapIter (some g) s (sn.push b) c)).heap[g]? = some (.map (entsL fk fv kf l bs).toArray c) := by
      unfold ChangeMaps.setBlock
      simp only
      rw [Array.getElem?_setIfInBounds, if_neg (fun e => hlt.2.2 e.symm), hw1h]; exact h1
    have hrr : (ChangeMaps.setBlock w1 r (.mapIter (some g) s (sn.push b) c)).heap[r]? = some (.mapIter (some g) s (sn.push b) c) := by
      unfold ChangeMaps.setBlock
      simp only
      rw [Array.getElem?_setIfInBounds, if_pos rfl, if_pos (by rw [hw1h]; exact hlt.2.1)]
    have hsz : (ChangeMaps.setBlock w1 r (.mapIter (some g) s (sn.push b) c)).heap.size = w.heap.size := by unfold ChangeMaps.setBlock; simp [hw1h]
    have hoth : ∀ k, k ≠ r → (ChangeMaps.setBlock w1 r (.mapIter (some g) s (sn.push b) c)).heap[k]? = w.heap[k]? := fun k hk => by
      unfold ChangeMaps.setBlock
      simp only
      rw [Array.getElem?_setIfInBounds, if_neg (fun e => hk e.symm), hw1h]
    have hrest : (ChangeMaps.setBlock w1 r (.mapIter (some g) s (sn.push b) c)).os = w.os ∧ (ChangeMaps.setBlock w1 r (.mapIter (some g) s (sn.push b) c)).tape = w.tape ∧ (ChangeMaps.setBlock w1 r (.mapIter (some g) s (sn.push b) c)).output = w.output := by
      rcases hw1 with rfl | rfl <;> exact ⟨rfl, rfl, rfl⟩
    refine .inr ⟨i, x, _, hx, hi, hrun, ⟨bs, c, s, sn.push b, c, hgr, h2, h3, h4, h5, hrr, h8, h8, h9, ?_, ?_, ?_, by simp [h13]⟩, fun u iu => ?_, ?_, hsz, fun B hB => ?_⟩
    · exact List.nodup_append.2 ⟨h10, by simp, fun a ha b' hb' => by rw [List.mem_singleton] at hb'; subst hb'; exact fun e => hi (e ▸ ha)⟩
    · intro j hj
      rcases List.mem_append.1 hj with hj | hj
      · exact h11 j hj
      · rw [List.mem_singleton] at hj; subst hj; exact (List.getElem?_eq_some_iff.1 hx).1
    · intro j b' hb'
      rw [Array.contains_push, List.mem_append, List.mem_singleton, Bool.or_eq_true, h12 j b' hb', beq_iff_eq]
      constructor
      · rintro (h | h)
        · exact .inl h
        · subst h; exact .inr (nodup_at' h3 hb' hb)
      · rintro (h | h)
        · exact .inl h
        · subst h; rw [hb] at hb'; injection hb' with hb'; exact .inr hb'.symm
    · refine run_entry_at u r g s sn _ c { key := fk (kf x), val := fv x, born := b } (blk_below hrr iu.below) (blk_below hgr iu.below) (by simpa using (ents_mem h2).2 ⟨i, x, b, hx, hb, rfl⟩) ?_
      have := ents_born (fk := fk) (fv := fv) (kf := kf) h2
      rw [List.toList_toArray] 
      rw [this]; exact h3
    · exact ⟨hrest.1, hrest.2.1, hrest.2.2, by rw [hsz]; exact Nat.le_refl _, fun k _ hk => hoth k (fun e => hk (by rw [e]))⟩
    · exact ⟨hrest.1, hrest.2.1, hrest.2.2, by rw [hsz]; exact Nat.le_refl _, fun k hk => hoth k (by omega)⟩
theorem pick_range : ∀ (l : List α), pickL l (List.range l.length) = l := by
  intro l
  have key : ∀ (n : Nat), n ≤ l.length → pickL l (List.range n) = l.take n := by
    intro n
    induction n with
    | zero => intro _; simp [pickL]
    | succ n ih =>
      intro hn
      have hx : l[n]? = some (l[n]'(by omega)) := List.getElem?_eq_getElem _
      unfold pickL at ih ⊢
      rw [List.range_succ, List.filterMap_append, ih (by omega), List.take_add_one, hx]
      simp [hx]
  rw [key _ (Nat.le_refl _), List.take_length]
/-- What has come, when all has: the list, in some order. -/
theorem pick_all (hn : idxs.Nodup) (hlt : ∀ i ∈ idxs, i < l.length) (hall : ∀ i, i < l.length → i ∈ idxs) : (pickL l idxs).Perm l := by
  have hp : idxs.Perm (List.range l.length) := (List.perm_ext_iff_of_nodup hn List.nodup_range).2 fun i => by rw [List.mem_range]; exact ⟨hlt i, hall i⟩
  have h1 : (pickL l idxs).Perm (pickL l (List.range l.length)) := hp.filterMap _
  exact h1.trans (List.Perm.of_eq (pick_range l))
theorem RangeL.facts (h : RangeL fk fv kf w g r l idxs) : idxs.Nodup ∧ ∀ i ∈ idxs, i < l.length := by
  obtain ⟨bs, c, s, sn, c0, h1, h2, h3, h4, h5, h6, h7, h8, h9, h10, h11, h12, h13⟩ := h
  exact ⟨h10, h11⟩
theorem RangeL.seen (h : RangeL fk fv kf w g r l idxs) : (w.iterSeen r).size = idxs.length := by
  obtain ⟨bs, c, s, sn, c0, h1, h2, h3, h4, h5, h6, h7, h8, h9, h10, h11, h12, h13⟩ := h
  unfold World.iterSeen
  rw [h6]; exact h13
theorem nodup_len {n : Nat} {idxs : List Nat} (h : idxs.Nodup) (hlt : ∀ i ∈ idxs, i < n) : idxs.length ≤ n := by
  have hp : idxs.Perm ((List.range n).filter fun i => decide (i ∈ idxs)) := (List.perm_ext_iff_of_nodup h (List.nodup_range.filter _)).2 fun i => by
    rw [List.mem_filter, List.mem_range, decide_eq_true_eq]
    exact ⟨fun hi => ⟨hlt i hi, hi⟩, fun hi => hi.2⟩
  have := List.length_filter_le (fun i => decide (i ∈ idxs)) (List.range n)
  rw [List.length_range] at this
  rw [hp.length_eq]; exact this
theorem RangeL.len (h : RangeL fk fv kf w g r l idxs) : idxs.length ≤ l.length := nodup_len h.facts.1 h.facts.2
/-- A store at a key that is there: the range goes on. -/
theorem RangeL.put [DecidableEq κ] {P : Program} {kt et t : TypeId} (L : KeyL P kt fk) (ht : P.underlying t = some (.map kt et)) (h : RangeL fk fv kf w g r l idxs) {j : Nat} {x v : α} (hx : l[j]? = some x) (hk : kf x = kf v) : ∃ o : Obj,
    (∀ (u : World) [Later w u], (Instr.mapUpdate t (.map (some g)) (fk (kf v)) (fv v)).run P u = .ok () (putAt u g o)) ∧ (∀ (u : World) [Later w u], RangeL fk fv kf (putAt u g o) g r (l.set j v) idxs) ∧
    (∀ (u : World) [Later w u] a, (putAt u g o).cell? a = u.cell? a) ∧ (∀ (u : World) [Later w u] a, (putAt u g o).frozen? a = u.frozen? a) := by
  obtain ⟨o, o1, o2, o3, o4⟩ := run_putL L ht h.mapL v
  have hlt := h.lt
  have hpk := putK_old h.mapL.nodup hx hk
  rw [hpk] at o2
  obtain ⟨bs, c, s, sn, c0, h1, h2, h3, h4, h5, h6, h7, h8, h9, h10, h11, h12, h13⟩ := h
  have hl2 : (l.set j v).length = l.length := List.length_set
  have hent : o = .map (entsL fk fv kf (l.set j v) bs).toArray c := by
    have hjl := (List.getElem?_eq_some_iff.1 hx).1
    obtain ⟨b, hbj⟩ : ∃ b, bs[j]? = some b := ⟨_, List.getElem?_eq_getElem (by rw [h2]; exact hjl)⟩
    have hrun := o1 w
    rcases MapL.find (fv := fv) (kf := kf) L h2 h5 (kf v) with ⟨e1, e2⟩ | ⟨j', x', e1, e2, e3⟩
    · exact absurd hk (e2 x (List.mem_of_getElem? hx))
    · have hjj : j' = j := nodup_at h5 e2 hx (e3.trans hk.symm)
      subst hjj
      rw [hx] at e2; injection e2 with e2; subst e2
      have hej := (ents_get (fk := fk) (fv := fv) (kf := kf) h2).2 ⟨x, b, hx, hbj, rfl⟩
      have hmod : (entsL fk fv kf l bs).modify j' (fun e => { e with key := fk (kf v), val := fv v }) = entsL fk fv kf (l.set j' v) bs := by
        apply List.ext_getElem?
        intro i
        rw [List.getElem?_modify]
        by_cases hij : j' = i
        · subst hij
          rw [hej, (ents_get (fk := fk) (fv := fv) (kf := kf) (by rw [hl2]; exact h2)).2 ⟨v, b, List.getElem?_set_self hjl, hbj, rfl⟩]
          simp
        · simp only [if_neg hij]
          cases hi : (entsL fk fv kf l bs)[i]? with
          | none =>
            symm
            show _ = none
            rw [List.getElem?_eq_none_iff] at hi ⊢
            rw [ents_length (by rw [hl2]; exact h2), hl2]
            rw [ents_length h2] at hi; exact hi
          | some e =>
            obtain ⟨x', b', hx', hb', rfl⟩ := (ents_get h2).1 hi
            symm
            exact (ents_get (by rw [hl2]; exact h2)).2 ⟨x', b', by rw [List.getElem?_set_ne hij]; exact hx', hb', rfl⟩
      simp [Instr.mapUpdate, run_underlying ht, MapKept.run_getObj_map h1, L.check, e1, Result.andThen, hej, hk, L.stays, MapKept.run_setObj_map _ h1, putAt] at hrun
      have hg := congrArg (fun a : Array Obj => a[g]?) hrun
      simp only [Array.getElem?_setIfInBounds, if_pos, hlt.1] at hg
      injection hg with hg
      rw [← hg, ← hmod]
  subst hent
  refine ⟨_, o1, fun u i => ⟨bs, c, s, sn, c0, ?_, by rw [hl2]; exact h2, h3, h4, ?_, ?_, h7, h8, h9, h10, by rw [hl2]; exact h11, h12, h13⟩, o3, o4⟩
  · unfold putAt
    rw [Array.getElem?_setIfInBounds, if_pos rfl, if_pos (Nat.lt_of_lt_of_le hlt.1 i.below.size)]
  · have := (o2 u).nodup; exact this
  · unfold putAt
    simp only
    rw [Array.getElem?_setIfInBounds, if_neg hlt.2.2]
    exact blk_below h6 i.below
end
end Go.Proofs.Ytgddapgdeaeggaa
