/-
  Small texts of this seat, put into one. Conditions stand in each theorem.
-/
import Derived.Test.YtjegncmkebbdfaaGreatDoorGrpA
import Derived.MapKept
import Derived.Laws.PanicsMore
import Derived.Maps.RangeRun
import Derived.Maps.RangeWalk
import Derived.Sort.MapsRangeIn
import Derived.RangeFuncSeq
set_option linter.unusedSimpArgs false
set_option linter.unusedVariables false
namespace Go.Proofs.YtjegncmkebbdfaaGreatDoor
open Go.RowKit

/-- What the laws on maps ask of a key's type. -/
structure KeyL (P : Program) (kt : TypeId) {κ : Type} (fk : κ → Value) : Prop where
  inj : ∀ a b, fk a = fk b → a = b
  check : ∀ (w : World) (em : Bool) a, (Instr.checkKey em 10000 kt (fk a)).run P w = .ok () w
  find : ∀ (w : World) a (es : List MapEntry), (∀ e ∈ es, ∃ b, e.key = fk b) → ((Instr.findKey kt (fk a) es).run P w = .ok none w ∧ ∀ e ∈ es, e.key ≠ fk a) ∨
    ∃ j e, (Instr.findKey kt (fk a) es).run P w = .ok (some (j, e.val)) w ∧ es[j]? = some e ∧ e.key = fk a
  stays : ∀ (w : World) a, (Instr.keyThatStays (fk a) (fk a)).run P w = .ok (fk a) w
theorem keyL_int {P : Program} {kt : TypeId} {q : IntKind} (h : P.underlying kt = some (.int q)) : KeyL P kt (fun n : Int => Value.int q n) where
  inj a b e := by injection e
  check w em a := MapKept.run_checkKey h (show MapKept.IsKey (.int q) (.int q a) from rfl) em 9999
  find w a es hes := by
    have hks : ∀ y ∈ es, MapKept.IsKey (.int q) y.key := fun y hy => by
      obtain ⟨b, hb⟩ := hes y hy
      rw [hb]; rfl
    rcases MapKept.findNow_spec (show MapKept.IsKey (.int q) (.int q a) from rfl) es 0 hks with ⟨h1, h2⟩ | ⟨j, e0, h1, h2, h3⟩
    · exact .inl ⟨MapKept.run_findKey h h1, h2⟩
    · exact .inr ⟨j, e0, by simpa using MapKept.run_findKey h h1, h2, h3⟩
  stays w a := MapKept.run_keyThatStays (d := .int q) (show MapKept.IsKey (.int q) (.int q a) from rfl)
/-- A struct's key: what is asked of its own kind. -/
theorem findAsking_spec {P : Program} {kt : TypeId} {κ : Type} {fk : κ → Value} [DecidableEq κ] (heq : ∀ (w : World) a b, (Op.equal kt (fk a) (fk b)).run P w = .ok (decide (a = b)) w) (inj : ∀ a b, fk a = fk b → a = b) (w : World) (a : κ) : ∀ (es : List MapEntry) (i : Nat), (∀ e ∈ es, ∃ b, e.key = fk b) →
    ((Instr.findAsking kt (fk a) es i).run P w = .ok none w ∧ ∀ e ∈ es, e.key ≠ fk a) ∨ ∃ j e, (Instr.findAsking kt (fk a) es i).run P w = .ok (some (i + j, e.val)) w ∧ es[j]? = some e ∧ e.key = fk a
  | [], i, _ => .inl ⟨by simp [Instr.findAsking], by simp⟩
  | e :: es, i, h => by
    obtain ⟨b, hb⟩ := h e (.head _)
    by_cases hab : a = b
    · subst hab
      exact .inr ⟨0, e, by simp [Instr.findAsking, hb, heq], rfl, hb⟩
    · rcases findAsking_spec heq inj w a es (i + 1) (fun x hx => h x (.tail _ hx)) with ⟨h1, h2⟩ | ⟨j, e0, h1, h2, h3⟩
      · refine .inl ⟨by simp [Instr.findAsking, hb, heq, hab, h1], fun x hx => ?_⟩
        rcases List.mem_cons.1 hx with rfl | hx
        · rw [hb]; exact fun e => hab (inj _ _ e).symm
        · exact h2 x hx
      · exact .inr ⟨j + 1, e0, by simp [Instr.findAsking, hb, heq, hab, h1, Nat.add_assoc, Nat.add_comm 1 j], h2, h3⟩
theorem keyL_struct {P : Program} {kt : TypeId} {fs : Array Field} {κ : Type} {fk : κ → Value} [DecidableEq κ] (h : P.underlying kt = some (.struct fs)) (inj : ∀ a b, fk a = fk b → a = b) (agg : ∀ a, ∃ cs, fk a = .agg cs) (check : ∀ (w : World) (em : Bool) a, (Instr.checkKey em 10000 kt (fk a)).run P w = .ok () w)
    (heq : ∀ (w : World) a b, (Op.equal kt (fk a) (fk b)).run P w = .ok (decide (a = b)) w) (bits : ∀ a, Instr.sameBits 10000 (fk a) (fk a) = true) : KeyL P kt fk where
  inj := inj
  check := check
  find w a es hes := by
    cases es with
    | nil => exact .inl ⟨by simp [Instr.findKey, run_underlying h, Instr.findNow, Result.andThen], by simp⟩
    | cons e es =>
      have hn : Instr.findNow (.struct fs) (fk a) (e :: es) 0 = none := by
        obtain ⟨cs, hcs⟩ := agg a
        obtain ⟨b, hb⟩ := hes e (.head _)
        simp [Instr.findNow, Instr.sameNow]
      have hr : (Instr.findKey kt (fk a) (e :: es)).run P w = (Instr.findAsking kt (fk a) (e :: es) 0).run P w := by
        simp [Instr.findKey, run_underlying h, Result.andThen, hn]
      rw [hr]
      rcases findAsking_spec heq inj w a (e :: es) 0 hes with h1 | ⟨j, e0, h1, h2⟩
      · exact .inl h1
      · exact .inr ⟨j, e0, by simpa using h1, h2⟩
  stays w a := by simp [Instr.keyThatStays, bits]

/-! ### A map as a partial function -/
def MapFn {κ ν : Type} (fk : κ → Value) (fv : ν → Value) (w : World) (g : Nat) (M : κ → Option ν) : Prop :=
  ∃ es clock, w.heap[g]? = some (.map es clock) ∧ (∀ e ∈ es.toList, ∃ k v, e.key = fk k ∧ e.val = fv v ∧ M k = some v) ∧ (∀ k v, M k = some v → ∃ e ∈ es.toList, e.key = fk k) ∧ es.toList.Pairwise (fun a b => a.key ≠ b.key)
/-- The world with another object in block g. -/
def putAt (w : World) (g : Nat) (o : Obj) : World := { w with heap := w.heap.setIfInBounds g o }
def mupd {κ ν : Type} [DecidableEq κ] (M : κ → Option ν) (k : κ) (v : ν) : κ → Option ν := fun k' => if k' = k then some v else M k'
section
variable {P : Program} {kt et t : TypeId} {κ ν : Type} {fk : κ → Value} {fv : ν → Value} {w w' : World} {g : Nat} {M : κ → Option ν}
theorem MapFn.lt (h : MapFn fk fv w g M) : g < w.heap.size := by
  obtain ⟨es, c, hb, _⟩ := h
  exact blk_lt hb
theorem MapFn.below (h : MapFn fk fv w g M) (hb : Below w.heap.size w w') : MapFn fk fv w' g M := by
  obtain ⟨es, c, h1, h2⟩ := h
  exact ⟨es, c, blk_below h1 hb, h2⟩
theorem MapFn.later (h : MapFn fk fv w g M) : ∀ u [Later w u], MapFn fk fv u g M := fun _ i => h.below i.below
theorem MapFn.of_heap (h : MapFn fk fv w g M) (hb : w'.heap[g]? = w.heap[g]?) : MapFn fk fv w' g M := by
  obtain ⟨es, c, h1, h2⟩ := h
  exact ⟨es, c, hb.trans h1, h2⟩
theorem mapFn_made (w : World) : MapFn fk fv (w.alloc (.map #[] 0)) w.heap.size (fun _ => none) :=
  ⟨#[], 0, heap_alloc_new w _, by simp, by simp, by simp⟩
theorem run_look_ok (L : KeyL P kt fk) (ht : P.underlying t = some (.map kt et)) {z : Value} (hz : ∀ w, (zeroValue et).run P w = .ok z w) (h : MapFn fk fv w g M) (k : κ) :
    (Instr.lookup t (.map (some g)) (fk k) true).run P w = .ok (.tuple #[(M k).elim z fv, .bool (M k).isSome]) w := by
  obtain ⟨es, c, hb, h1, h2, h3⟩ := h
  have hks : ∀ e ∈ es.toList, ∃ b, e.key = fk b := fun e he => by obtain ⟨k, v, a, _⟩ := h1 e he; exact ⟨k, a⟩
  rcases L.find w k es.toList hks with ⟨e1, e2⟩ | ⟨j, e, e1, e2, e3⟩
  · have hM : M k = none := by
      cases hM : M k with
      | none => rfl
      | some v => obtain ⟨e, he, hk⟩ := h2 k v hM; exact absurd hk (e2 e he)
    simp [Instr.lookup, run_underlying ht, MapKept.run_getObj_map hb, L.check, e1, hz, Result.andThen, hM]
  · obtain ⟨k', v, a, b, c'⟩ := h1 e (List.mem_of_getElem? e2)
    have : k' = k := L.inj _ _ (a.symm.trans e3)
    subst this
    simp [Instr.lookup, run_underlying ht, MapKept.run_getObj_map hb, L.check, e1, Result.andThen, c', b]
theorem run_look (L : KeyL P kt fk) (ht : P.underlying t = some (.map kt et)) {z : Value} (hz : ∀ w, (zeroValue et).run P w = .ok z w) (h : MapFn fk fv w g M) (k : κ) :
    (Instr.lookup t (.map (some g)) (fk k) false).run P w = .ok ((M k).elim z fv) w := by
  obtain ⟨es, c, hb, h1, h2, h3⟩ := h
  have hks : ∀ e ∈ es.toList, ∃ b, e.key = fk b := fun e he => by obtain ⟨k, v, a, _⟩ := h1 e he; exact ⟨k, a⟩
  rcases L.find w k es.toList hks with ⟨e1, e2⟩ | ⟨j, e, e1, e2, e3⟩
  · have hM : M k = none := by
      cases hM : M k with
      | none => rfl
      | some v => obtain ⟨e, he, hk⟩ := h2 k v hM; exact absurd hk (e2 e he)
    simp [Instr.lookup, run_underlying ht, MapKept.run_getObj_map hb, L.check, e1, hz, Result.andThen, hM]
  · obtain ⟨k', v, a, b, c'⟩ := h1 e (List.mem_of_getElem? e2)
    have : k' = k := L.inj _ _ (a.symm.trans e3)
    subst this
    simp [Instr.lookup, run_underlying ht, MapKept.run_getObj_map hb, L.check, e1, Result.andThen, c', b]
/-- A store: the run, in each later world; what the map is then. -/
theorem run_store [DecidableEq κ] (L : KeyL P kt fk) (ht : P.underlying t = some (.map kt et)) (h : MapFn fk fv w g M) : ∃ U : κ → ν → Obj,
    (∀ (u : World) [Later w u] k v, (Instr.mapUpdate t (.map (some g)) (fk k) (fv v)).run P u = .ok () (putAt u g (U k v))) ∧
    (∀ (u : World) [Later w u] k v, MapFn fk fv (putAt u g (U k v)) g (mupd M k v)) ∧
    (∀ (u : World) [Later w u] k v a, (putAt u g (U k v)).cell? a = u.cell? a) ∧ (∀ (u : World) [Later w u] k v a, (putAt u g (U k v)).frozen? a = u.frozen? a) := by
  obtain ⟨es, c, hb, h1, h2, h3⟩ := h
  have hks : ∀ e ∈ es.toList, ∃ b, e.key = fk b := fun e he => by obtain ⟨k, v, a, _⟩ := h1 e he; exact ⟨k, a⟩
  have key : ∀ k v, ∃ es' c', (∀ (u : World) [Later w u], (Instr.mapUpdate t (.map (some g)) (fk k) (fv v)).run P u = .ok () (putAt u g (.map es' c'))) ∧
      (∀ e ∈ es'.toList, ∃ k' v', e.key = fk k' ∧ e.val = fv v' ∧ mupd M k v k' = some v') ∧ (∀ k' v', mupd M k v k' = some v' → ∃ e ∈ es'.toList, e.key = fk k') ∧ es'.toList.Pairwise (fun a b => a.key ≠ b.key) := by
    intro k v
    have hget : ∀ (u : World) [Later w u], u.heap[g]? = some (.map es c) := fun u i => blk_below hb i.below
    by_cases hk : ∃ e ∈ es.toList, e.key = fk k
    · -- there
      obtain ⟨j, e, he, hke, hfind⟩ : ∃ (j : Nat) (e : MapEntry), es.toList[j]? = some e ∧ e.key = fk k ∧ ∀ u : World, (Instr.findKey kt (fk k) es.toList).run P u = .ok (some (j, e.val)) u := by
        obtain ⟨e0, he0, hk0⟩ := hk
        obtain ⟨j0, hj0⟩ := List.getElem?_of_mem he0
        refine ⟨j0, e0, hj0, hk0, fun u => ?_⟩
        rcases L.find u k es.toList hks with ⟨_, e2⟩ | ⟨j, e, e1, e2, e3⟩
        · exact absurd hk0 (e2 e0 he0)
        · have hj : j = j0 := by
            rcases Nat.lt_trichotomy j j0 with hlt | heq | hgt
            · have := List.pairwise_iff_getElem.1 h3 j j0 (List.getElem?_eq_some_iff.1 e2).1 (List.getElem?_eq_some_iff.1 hj0).1 hlt
              rw [(List.getElem?_eq_some_iff.1 e2).2, (List.getElem?_eq_some_iff.1 hj0).2] at this
              exact absurd (e3.trans hk0.symm) this
            · exact heq
            · have := List.pairwise_iff_getElem.1 h3 j0 j (List.getElem?_eq_some_iff.1 hj0).1 (List.getElem?_eq_some_iff.1 e2).1 hgt
              rw [(List.getElem?_eq_some_iff.1 e2).2, (List.getElem?_eq_some_iff.1 hj0).2] at this
              exact absurd (hk0.trans e3.symm) this
          subst hj
          rw [hj0] at e2; injection e2 with e2; subst e2
          exact e1
      refine ⟨es.modify j fun e => { e with key := fk k, val := fv v }, c, fun u i => ?_, ?_, ?_, ?_⟩
      · have hge : es[j]? = some e := by simpa using he
        simp [Instr.mapUpdate, run_underlying ht, MapKept.run_getObj_map (hget u), L.check, hfind, Result.andThen, hge, hke, L.stays, MapKept.run_setObj_map _ (hget u), putAt]
      · intro x hx
        obtain ⟨i, hi⟩ := List.getElem?_of_mem hx
        rw [Array.getElem?_toList, Array.getElem?_modify] at hi
        by_cases hij : j = i
        · subst hij
          rw [if_pos rfl] at hi
          have hge : es[j]? = some e := by simpa using he
          rw [hge] at hi
          simp only [Option.map_some, Option.some.injEq] at hi
          subst hi
          exact ⟨k, v, rfl, rfl, by simp [mupd]⟩
        · rw [if_neg hij] at hi
          have hmem : x ∈ es.toList := List.mem_of_getElem? (i := i) (by simpa using hi)
          obtain ⟨k', v', a, b, d⟩ := h1 x hmem
          refine ⟨k', v', a, b, ?_⟩
          have hne : k' ≠ k := by
            rintro rfl
            have hi' : es.toList[i]? = some x := by simpa using hi
            rcases Nat.lt_or_gt_of_ne hij with hlt | hgt
            · have := List.pairwise_iff_getElem.1 h3 j i (List.getElem?_eq_some_iff.1 he).1 (List.getElem?_eq_some_iff.1 hi').1 hlt
              rw [(List.getElem?_eq_some_iff.1 he).2, (List.getElem?_eq_some_iff.1 hi').2] at this
              exact this (hke.trans a.symm)
            · have := List.pairwise_iff_getElem.1 h3 i j (List.getElem?_eq_some_iff.1 hi').1 (List.getElem?_eq_some_iff.1 he).1 hgt
              rw [(List.getElem?_eq_some_iff.1 he).2, (List.getElem?_eq_some_iff.1 hi').2] at this
              exact this (a.trans hke.symm)
          simp [mupd, hne, d]
      · intro k' v' hM
        have hsz : j < es.size := by have := (List.getElem?_eq_some_iff.1 he).1; simpa using this
        by_cases hkk : k' = k
        · subst hkk
          refine ⟨{ e with key := fk k', val := fv v }, List.mem_of_getElem? (i := j) ?_, rfl⟩
          have hge : es[j]? = some e := by simpa using he
          rw [Array.getElem?_toList, Array.getElem?_modify, if_pos rfl, hge]; rfl
        · simp only [mupd, if_neg hkk] at hM
          obtain ⟨x, hx, hxk⟩ := h2 k' v' hM
          obtain ⟨i, hi⟩ := List.getElem?_of_mem hx
          refine ⟨x, List.mem_of_getElem? (i := i) ?_, hxk⟩
          have hij : j ≠ i := by
            rintro rfl
            rw [he] at hi; injection hi with hi; subst hi
            exact hkk (L.inj _ _ (hxk.symm.trans hke))
          rw [Array.getElem?_toList, Array.getElem?_modify, if_neg hij]; simpa using hi
      · have hmap : (es.modify j fun e => { e with key := fk k, val := fv v }).toList.map (·.key) = es.toList.map (·.key) := by
          apply List.ext_getElem?
          intro i
          rw [List.getElem?_map, List.getElem?_map, Array.getElem?_toList, Array.getElem?_toList, Array.getElem?_modify]
          by_cases hij : j = i
          · subst hij
            have hge : es[j]? = some e := by simpa using he
            rw [if_pos rfl, hge]; simp [hke]
          · rw [if_neg hij]
        have hp : (es.toList.map (·.key)).Pairwise (· ≠ ·) := List.pairwise_map.2 h3
        rw [← hmap] at hp
        exact List.pairwise_map.1 hp
    · -- new
      have hno : ∀ e ∈ es.toList, e.key ≠ fk k := fun e he h => hk ⟨e, he, h⟩
      refine ⟨es.push { key := fk k, val := fv v, born := c }, c + 1, fun u i => ?_, ?_, ?_, ?_⟩
      · have e1 : (Instr.findKey kt (fk k) es.toList).run P u = .ok none u := by
          rcases L.find u k es.toList hks with ⟨e1, _⟩ | ⟨j, e, _, e2, e3⟩
          · exact e1
          · exact absurd e3 (hno e (List.mem_of_getElem? e2))
        simp [Instr.mapUpdate, run_underlying ht, MapKept.run_getObj_map (hget u), L.check, e1, Result.andThen, MapKept.run_setObj_map _ (hget u), putAt]
      · intro x hx
        simp only [Array.toList_push, List.mem_append, List.mem_singleton] at hx
        rcases hx with hx | rfl
        · obtain ⟨k', v', a, b, d⟩ := h1 x hx
          have hne : k' ≠ k := by rintro rfl; exact hno x hx a
          exact ⟨k', v', a, b, by simp [mupd, hne, d]⟩
        · exact ⟨k, v, rfl, rfl, by simp [mupd]⟩
      · intro k' v' hM
        by_cases hkk : k' = k
        · subst hkk; exact ⟨{ key := fk k', val := fv v, born := c }, by simp, rfl⟩
        · simp only [mupd, if_neg hkk] at hM
          obtain ⟨x, hx, hxk⟩ := h2 k' v' hM
          exact ⟨x, by simp only [Array.toList_push, List.mem_append]; exact .inl hx, hxk⟩
      · rw [Array.toList_push, List.pairwise_append]
        exact ⟨h3, by simp, fun a ha b hb => by rw [List.mem_singleton.1 hb]; exact hno a ha⟩
  refine ⟨fun k v => .map (Classical.choose (key k v)) (Classical.choose (Classical.choose_spec (key k v))), fun u i k v => ?_, fun u i k v => ?_, fun u i k v a => ?_, fun u i k v a => ?_⟩
  · exact (Classical.choose_spec (Classical.choose_spec (key k v))).1 u
  · have hs := (Classical.choose_spec (Classical.choose_spec (key k v))).2
    have hlt : g < u.heap.size := Nat.lt_of_lt_of_le (blk_lt hb) i.below.size
    refine ⟨Classical.choose (key k v), Classical.choose (Classical.choose_spec (key k v)), ?_, hs⟩
    unfold putAt
    rw [Array.getElem?_setIfInBounds, if_pos rfl, if_pos hlt]
  · have hu : u.heap[g]? = some (.map es c) := blk_below hb i.below
    have hlt := blk_lt hu
    unfold World.cell? putAt
    by_cases hga : g = a.block
    · rw [← hga, hu]; simp [hlt]
    · simp [hga]
  · have hu : u.heap[g]? = some (.map es c) := blk_below hb i.below
    have hlt := blk_lt hu
    unfold World.frozen? putAt
    by_cases hga : g = a.block
    · rw [← hga, hu]; simp [hlt]
    · simp [hga]
theorem putAt_below {B : Nat} {a : World} {o : Obj} (h : Below B a w) (hg : B ≤ g) : Below B a (putAt w g o) :=
  ⟨h.os, h.tape, h.output, by simpa [putAt] using h.size, fun k hk => by
    rw [← h.block k hk]
    unfold putAt
    rw [Array.getElem?_setIfInBounds, if_neg (by omega)]⟩
theorem putAt_heap {o : Obj} {k : Nat} (h : k ≠ g) : (putAt w g o).heap[k]? = w.heap[k]? := by simp [putAt, Ne.symm h]
theorem putAt_size {o : Obj} : (putAt w g o).heap.size = w.heap.size := by simp [putAt]
theorem later_putAt {W u : World} {o : Obj} [h : Later W u] (hp : W.heap.size ≤ g) (e : putAt u g o = w') : ∀ b [Later b W], Later b w' := fun b k => by
  have hs := k.below.size
  exact ⟨by rw [← e]; exact putAt_below (k.trans h).below (by omega)⟩
theorem boxed_putAt {w0 u : World} {c : Array Value} {t : TypeId} {o : Obj} {b : Nat} (h : Boxed w0 b c t) [Later w0 u] (hne : b ≠ g) (e : putAt u g o = w') : Boxed w' b c t :=
  boxed (by rw [← e, putAt_heap hne]; exact (h u).1)
theorem Own.putAt {α : Type} {f : α → List Value} {s : Nat} {e : TypeId} {base : Nat} {v : Value} {l : List α} {o : Obj} (h : Own f s e base w v l) (hne : v.ownBlock ≠ some g) : Own f s e base (putAt w g o) v l :=
  h.kept (row := some g) ⟨rfl, rfl, rfl, by simp [putAt_size], fun k _ hk => putAt_heap (fun e => hk (by rw [e]))⟩ (.inr hne)
end
end Go.Proofs.YtjegncmkebbdfaaGreatDoor

namespace Go.Proofs.YtjegncmkebbdfaaGreatDoor
open Go.RowKit

section
variable {κ α : Type}
def entsL (fk : κ → Value) (fv : α → Value) (kf : α → κ) (l : List α) (bs : List Nat) : List MapEntry := List.zipWith (fun x b => { key := fk (kf x), val := fv x, born := b }) l bs
def findK [DecidableEq κ] (kf : α → κ) (l : List α) (k : κ) : Option α := l.find? fun x => decide (kf x = k)
def putK [DecidableEq κ] (kf : α → κ) (l : List α) (v : α) : List α := if (l.any fun x => decide (kf x = kf v)) then l.map (fun x => if kf x = kf v then v else x) else l ++ [v]
def remK [DecidableEq κ] (kf : α → κ) (l : List α) (k : κ) : List α := l.filter fun x => !decide (kf x = k)
/-- Block g is a map that holds the values l, each at its own key. -/
def MapL (fk : κ → Value) (fv : α → Value) (kf : α → κ) (w : World) (g : Nat) (l : List α) : Prop :=
  ∃ (bs : List Nat) (clock : Nat), w.heap[g]? = some (.map (entsL fk fv kf l bs).toArray clock) ∧ bs.length = l.length ∧ bs.Nodup ∧ (∀ b ∈ bs, b < clock) ∧ (l.map kf).Nodup
variable {fk : κ → Value} {fv : α → Value} {kf : α → κ} {w w' : World} {g r : Nat} {l : List α} {bs : List Nat}
theorem ents_get (hl : bs.length = l.length) {j : Nat} {e : MapEntry} : (entsL fk fv kf l bs)[j]? = some e ↔ ∃ x b, l[j]? = some x ∧ bs[j]? = some b ∧ e = { key := fk (kf x), val := fv x, born := b } := by
  unfold entsL
  rw [List.getElem?_zipWith]
  cases hx : l[j]? with
  | none => simp
  | some x =>
    cases hb : bs[j]? with
    | none => simp
    | some b => simp [eq_comm]
theorem ents_mem (hl : bs.length = l.length) {e : MapEntry} : e ∈ entsL fk fv kf l bs ↔ ∃ (j : Nat) (x : α) (b : Nat), l[j]? = some x ∧ bs[j]? = some b ∧ e = { key := fk (kf x), val := fv x, born := b } := by
  constructor
  · intro h
    obtain ⟨j, hj⟩ := List.getElem?_of_mem h
    exact ⟨j, (ents_get hl).1 hj⟩
  · rintro ⟨j, h⟩
    exact List.mem_of_getElem? ((ents_get hl).2 h)
theorem ents_length (hl : bs.length = l.length) : (entsL fk fv kf l bs).length = l.length := by simp [entsL, hl]
theorem ents_born (hl : bs.length = l.length) : (entsL fk fv kf l bs).map (·.born) = bs := by
  apply List.ext_getElem?
  intro i
  rw [List.getElem?_map]
  cases hb : bs[i]? with
  | none =>
    have : (entsL fk fv kf l bs)[i]? = none := List.getElem?_eq_none (by rw [ents_length hl, ← hl]; exact List.getElem?_eq_none_iff.1 hb)
    rw [this]; rfl
  | some b =>
    have hi := (List.getElem?_eq_some_iff.1 hb).1
    have hx : l[i]? = some (l[i]'(by omega)) := List.getElem?_eq_getElem _
    rw [(ents_get (fk := fk) (fv := fv) (kf := kf) hl).2 ⟨_, b, hx, hb, rfl⟩]; rfl
theorem MapL.lt (h : MapL fk fv kf w g l) : g < w.heap.size := by
  obtain ⟨bs, c, hb, _⟩ := h
  exact blk_lt hb
theorem MapL.nodup (h : MapL fk fv kf w g l) : (l.map kf).Nodup := by obtain ⟨bs, c, _, _, _, _, h⟩ := h; exact h
theorem MapL.of_heap (h : MapL fk fv kf w g l) (hb : w'.heap[g]? = w.heap[g]?) : MapL fk fv kf w' g l := by
  obtain ⟨bs, c, h1, h2⟩ := h
  exact ⟨bs, c, hb.trans h1, h2⟩
theorem MapL.below (h : MapL fk fv kf w g l) (hb : Below w.heap.size w w') : MapL fk fv kf w' g l := h.of_heap (hb.block g h.lt)
theorem MapL.later (h : MapL fk fv kf w g l) : ∀ u [Later w u], MapL fk fv kf u g l := fun _ i => h.below i.below
theorem MapL.kept {row : Option Nat} (h : MapL fk fv kf w g l) (hg : w.grownBy w' row) (hne : row ≠ some g) : MapL fk fv kf w' g l := h.of_heap (hg.block g h.lt (fun e => hne e.symm))
theorem mapL_made (w : World) : MapL fk fv kf (w.alloc (.map #[] 0)) w.heap.size [] := ⟨[], 0, heap_alloc_new w _, rfl, List.nodup_nil, by simp, List.nodup_nil⟩
theorem nodup_at {l : List α} (h : (l.map kf).Nodup) {i j : Nat} {x y : α} (hx : l[i]? = some x) (hy : l[j]? = some y) (he : kf x = kf y) : i = j := by
  have hp : l.Pairwise fun a b => kf a ≠ kf b := List.pairwise_map.1 h
  have hi := List.getElem?_eq_some_iff.1 hx
  have hj := List.getElem?_eq_some_iff.1 hy
  obtain ⟨hi1, hi2⟩ := hi
  obtain ⟨hj1, hj2⟩ := hj
  rcases Nat.lt_trichotomy i j with hlt | heq | hgt
  · have := List.pairwise_iff_getElem.1 hp i j hi1 hj1 hlt
    rw [hi2, hj2] at this; exact absurd he this
  · exact heq
  · have := List.pairwise_iff_getElem.1 hp j i hj1 hi1 hgt
    rw [hi2, hj2] at this; exact absurd he.symm this
theorem nodup_at' {l : List Nat} (h : l.Nodup) {i j : Nat} {x : Nat} (hx : l[i]? = some x) (hy : l[j]? = some x) : i = j := nodup_at (kf := id) (by simpa using h) hx hy rfl
section
variable [DecidableEq κ]
/-- Where the key stands, and that no other does: in each world. -/
theorem MapL.find {P : Program} {kt : TypeId} (L : KeyL P kt fk) (hl : bs.length = l.length) (hn : (l.map kf).Nodup) (k : κ) :
    ((∀ u : World, (Instr.findKey kt (fk k) (entsL fk fv kf l bs)).run P u = .ok none u) ∧ ∀ x ∈ l, kf x ≠ k) ∨
    ∃ (j : Nat) (x : α), (∀ u : World, (Instr.findKey kt (fk k) (entsL fk fv kf l bs)).run P u = .ok (some (j, fv x)) u) ∧ l[j]? = some x ∧ kf x = k := by
  have hks : ∀ e ∈ entsL fk fv kf l bs, ∃ b, e.key = fk b := fun e he => by
    obtain ⟨j, x, b, _, _, rfl⟩ := (ents_mem hl).1 he; exact ⟨kf x, rfl⟩
  by_cases hk : ∃ x ∈ l, kf x = k
  · obtain ⟨x, hx, hkx⟩ := hk
    obtain ⟨j, hj⟩ := List.getElem?_of_mem hx
    refine .inr ⟨j, x, fun u => ?_, hj, hkx⟩
    rcases L.find u k _ hks with ⟨_, e2⟩ | ⟨j', e, e1, e2, e3⟩
    · obtain ⟨b, hb⟩ : ∃ b, bs[j]? = some b := ⟨_, List.getElem?_eq_getElem (by rw [hl]; exact (List.getElem?_eq_some_iff.1 hj).1)⟩
      exact absurd (congrArg fk hkx) (e2 _ ((ents_mem hl).2 ⟨j, x, b, hj, hb, rfl⟩))
    · obtain ⟨x', b', hx', hb', rfl⟩ := (ents_get hl).1 e2
      have hkk : kf x' = k := L.inj _ _ e3
      have hjj : j' = j := nodup_at hn hx' hj (hkk.trans hkx.symm)
      subst hjj
      rw [hj] at hx'; injection hx' with hx'; subst hx'
      exact e1
  · have hno : ∀ x ∈ l, kf x ≠ k := fun x hx h => hk ⟨x, hx, h⟩
    refine .inl ⟨fun u => ?_, hno⟩
    rcases L.find u k _ hks with ⟨e1, _⟩ | ⟨j', e, _, e2, e3⟩
    · exact e1
    · obtain ⟨x', b', hx', _, rfl⟩ := (ents_get hl).1 e2
      exact absurd (L.inj _ _ e3) (hno x' (List.mem_of_getElem? hx'))
theorem findK_none {k : κ} (h : ∀ x ∈ l, kf x ≠ k) : findK kf l k = none := by
  unfold findK
  rw [List.find?_eq_none]
  intro x hx; simpa using h x hx
theorem findK_at (hn : (l.map kf).Nodup) {j : Nat} {x : α} {k : κ} (hx : l[j]? = some x) (hk : kf x = k) : findK kf l k = some x := by
  unfold findK
  cases h : l.find? fun x => decide (kf x = k) with
  | none => rw [List.find?_eq_none] at h; exact absurd hk (by simpa using h x (List.mem_of_getElem? hx))
  | some y =>
    have hy := List.mem_of_find?_eq_some h
    obtain ⟨i, hi⟩ := List.getElem?_of_mem hy
    have hky : kf y = k := by simpa using List.find?_some h
    have := nodup_at hn hi hx (hky.trans hk.symm)
    subst this
    rw [hx] at hi; rw [hi]
theorem run_lookL {P : Program} {kt et t : TypeId} (L : KeyL P kt fk) (ht : P.underlying t = some (.map kt et)) {z : Value} (hz : ∀ w, (zeroValue et).run P w = .ok z w) (h : MapL fk fv kf w g l) (k : κ) :
    (Instr.lookup t (.map (some g)) (fk k) true).run P w = .ok (.tuple #[(findK kf l k).elim z fv, .bool (findK kf l k).isSome]) w := by
  obtain ⟨bs, c, hb, hl, h1, h2, h3⟩ := h
  rcases MapL.find (fv := fv) (kf := kf) L hl h3 k with ⟨e1, e2⟩ | ⟨j, x, e1, e2, e3⟩
  · simp [Instr.lookup, run_underlying ht, MapKept.run_getObj_map hb, L.check, e1, hz, Result.andThen, findK_none e2]
  · simp [Instr.lookup, run_underlying ht, MapKept.run_getObj_map hb, L.check, e1, Result.andThen, findK_at h3 e2 e3]
theorem putK_new {v : α} (h : ∀ x ∈ l, kf x ≠ kf v) : putK kf l v = l ++ [v] := by
  unfold putK
  rw [if_neg]
  simpa using h
theorem putK_old (hn : (l.map kf).Nodup) {j : Nat} {x v : α} (hx : l[j]? = some x) (hk : kf x = kf v) : putK kf l v = l.set j v := by
  unfold putK
  rw [if_pos (List.any_eq_true.2 ⟨x, List.mem_of_getElem? hx, by simpa using hk⟩)]
  apply List.ext_getElem?
  intro i
  rw [List.getElem?_map]
  by_cases hij : j = i
  · subst hij
    rw [List.getElem?_set_self (List.getElem?_eq_some_iff.1 hx).1, hx]; simp [hk]
  · rw [List.getElem?_set_ne hij]
    cases hi : l[i]? with
    | none => rfl
    | some y =>
      have : ¬ kf y = kf v := fun e => hij (nodup_at hn hx hi (hk.trans e.symm))
      simp [this]
theorem putK_keys (hn : (l.map kf).Nodup) {v : α} : ((putK kf l v).map kf).Nodup := by
  by_cases h : ∃ x ∈ l, kf x = kf v
  · obtain ⟨x, hx, hk⟩ := h
    obtain ⟨j, hj⟩ := List.getElem?_of_mem hx
    rw [putK_old hn hj hk]
    have : (l.set j v).map kf = l.map kf := by
      apply List.ext_getElem?
      intro i
      rw [List.getElem?_map, List.getElem?_map]
      by_cases hij : j = i
      · subst hij
        rw [List.getElem?_set_self (List.getElem?_eq_some_iff.1 hj).1, hj]; simp [hk]
      · rw [List.getElem?_set_ne hij]
    rw [this]; exact hn
  · have hno : ∀ x ∈ l, kf x ≠ kf v := fun x hx e => h ⟨x, hx, e⟩
    rw [putK_new hno, List.map_append]
    refine List.nodup_append.2 ⟨hn, by simp, fun a ha b hb => ?_⟩
    obtain ⟨x, hx, rfl⟩ := List.mem_map.1 ha
    simp at hb
    rw [hb]; exact hno x hx
/-- m[k] = v, v at its own key: the run in each later world; what the map is then. -/
theorem run_putL {P : Program} {kt et t : TypeId} (L : KeyL P kt fk) (ht : P.underlying t = some (.map kt et)) (h : MapL fk fv kf w g l) (v : α) : ∃ o : Obj,
    (∀ (u : World) [Later w u], (Instr.mapUpdate t (.map (some g)) (fk (kf v)) (fv v)).run P u = .ok () (putAt u g o)) ∧ (∀ (u : World) [Later w u], MapL fk fv kf (putAt u g o) g (putK kf l v)) ∧
    (∀ (u : World) [Later w u] a, (putAt u g o).cell? a = u.cell? a) ∧ (∀ (u : World) [Later w u] a, (putAt u g o).frozen? a = u.frozen? a) := by
  obtain ⟨bs, c, hb, hl, h1, h2, h3⟩ := h
  have hget : ∀ (u : World) [Later w u], u.heap[g]? = some (.map (entsL fk fv kf l bs).toArray c) := fun u i => blk_below hb i.below
  have key : ∃ (bs' : List Nat) (c' : Nat), (∀ (u : World) [Later w u], (Instr.mapUpdate t (.map (some g)) (fk (kf v)) (fv v)).run P u = .ok () (putAt u g (.map (entsL fk fv kf (putK kf l v) bs').toArray c'))) ∧ bs'.length = (putK kf l v).length ∧ bs'.Nodup ∧ (∀ b ∈ bs', b < c') := by
    rcases MapL.find (fv := fv) (kf := kf) L hl h3 (kf v) with ⟨e1, e2⟩ | ⟨j, x, e1, e2, e3⟩
    · refine ⟨bs ++ [c], c + 1, fun u i => ?_, by rw [putK_new e2]; simp [hl], ?_, ?_⟩
      · have : (entsL fk fv kf l bs).toArray.push { key := fk (kf v), val := fv v, born := c } = (entsL fk fv kf (putK kf l v) (bs ++ [c])).toArray := by
          rw [putK_new e2]
          simp [entsL, List.zipWith_append hl.symm]
        simp [Instr.mapUpdate, run_underlying ht, MapKept.run_getObj_map (hget u), L.check, e1, Result.andThen, MapKept.run_setObj_map _ (hget u), putAt, ← this]
      · refine List.nodup_append.2 ⟨h1, by simp, fun a ha b hb => ?_⟩
        simp at hb; have := h2 a ha; omega
      · intro b hb
        rcases List.mem_append.1 hb with hb | hb
        · have := h2 b hb; omega
        · simp at hb; omega
    · refine ⟨bs, c, fun u i => ?_, by rw [putK_old h3 e2 e3, List.length_set]; exact hl, h1, h2⟩
      obtain ⟨b, hbj⟩ : ∃ b, bs[j]? = some b := ⟨_, List.getElem?_eq_getElem (by rw [hl]; exact (List.getElem?_eq_some_iff.1 e2).1)⟩
      have hej := (ents_get (fk := fk) (fv := fv) (kf := kf) hl).2 ⟨x, b, e2, hbj, rfl⟩
      have : (entsL fk fv kf l bs).toArray.modify j (fun e => { e with key := fk (kf v), val := fv v }) = (entsL fk fv kf (putK kf l v) bs).toArray := by
        apply Array.ext_getElem?
        intro i
        rw [Array.getElem?_modify, putK_old h3 e2 e3, List.getElem?_toArray, List.getElem?_toArray]
        by_cases hij : j = i
        · subst hij
          rw [if_pos rfl, hej, (ents_get (fk := fk) (fv := fv) (kf := kf) (by rw [List.length_set]; exact hl)).2 ⟨v, b, List.getElem?_set_self (List.getElem?_eq_some_iff.1 e2).1, hbj, rfl⟩]
          rfl
        · rw [if_neg hij]
          cases hi : (entsL fk fv kf l bs)[i]? with
          | none =>
            symm
            rw [List.getElem?_eq_none_iff] at hi ⊢
            rw [ents_length (by rw [List.length_set]; exact hl), List.length_set]
            rw [ents_length hl] at hi; exact hi
          | some e =>
            obtain ⟨x', b', hx', hb', rfl⟩ := (ents_get hl).1 hi
            symm
            exact (ents_get (by rw [List.length_set]; exact hl)).2 ⟨x', b', by rw [List.getElem?_set_ne hij]; exact hx', hb', rfl⟩
      simp [Instr.mapUpdate, run_underlying ht, MapKept.run_getObj_map (hget u), L.check, e1, Result.andThen, hej, e3, L.stays, MapKept.run_setObj_map _ (hget u), putAt, ← this]
  obtain ⟨bs', c', k1, k2, k3, k4⟩ := key
  refine ⟨_, k1, fun u i => ⟨bs', c', ?_, k2, k3, k4, putK_keys h3⟩, fun u i a => ?_, fun u i a => ?_⟩
  · unfold putAt
    rw [Array.getElem?_setIfInBounds, if_pos rfl, if_pos (blk_lt (hget u))]
  · have hu := hget u
    have hlt := blk_lt hu
    unfold World.cell? putAt
    by_cases hga : g = a.block
    · rw [← hga, hu]; simp [hlt]
    · simp [hga]
  · have hu := hget u
    have hlt := blk_lt hu
    unfold World.frozen? putAt
    by_cases hga : g = a.block
    · rw [← hga, hu]; simp [hlt]
    · simp [hga]
/-- delete(m, k). -/
theorem run_remL {P : Program} {kt et t ty : TypeId} (L : KeyL P kt fk) (ht : P.underlying t = some (.map kt et)) (h : MapL fk fv kf w g l) (k : κ) : ∃ o : Obj,
    (∀ (u : World) [Later w u], (Builtin.delete_ #[t, kt] ty #[.map (some g), fk k]).run P u = .ok (.tuple #[]) (putAt u g o)) ∧ (∀ (u : World) [Later w u], MapL fk fv kf (putAt u g o) g (remK kf l k)) := by
  obtain ⟨bs, c, hb, hl, h1, h2, h3⟩ := h
  have hget : ∀ (u : World) [Later w u], u.heap[g]? = some (.map (entsL fk fv kf l bs).toArray c) := fun u i => blk_below hb i.below
  rcases MapL.find (fv := fv) (kf := kf) L hl h3 k with ⟨e1, e2⟩ | ⟨j, x, e1, e2, e3⟩
  · refine ⟨.map (entsL fk fv kf l bs).toArray c, fun u i => ?_, fun u i => ⟨bs, c, ?_, ?_, h1, h2, ?_⟩⟩
    · simp [Builtin.delete_, run_underlying ht, MapKept.run_getObj_map (hget u), L.check, e1, Result.andThen, MapKept.run_setObj_map _ (hget u), putAt]
    · have : remK kf l k = l := List.filter_eq_self.2 fun x hx => by simpa using e2 x hx
      rw [this]; unfold putAt
      rw [Array.getElem?_setIfInBounds, if_pos rfl, if_pos (blk_lt (hget u))]
    · have : remK kf l k = l := List.filter_eq_self.2 fun x hx => by simpa using e2 x hx
      rw [this]; exact hl
    · have : remK kf l k = l := List.filter_eq_self.2 fun x hx => by simpa using e2 x hx
      rw [this]; exact h3
  · have hr : remK kf l k = l.eraseIdx j := by
      have hj := (List.getElem?_eq_some_iff.1 e2)
      obtain ⟨hj1, hj2⟩ := hj
      have hsp : l = l.take j ++ x :: l.drop (j + 1) := by rw [← hj2, List.getElem_cons_drop, List.take_append_drop]
      rw [List.eraseIdx_eq_take_drop_succ]
      unfold remK
      conv => lhs; rw [hsp]
      rw [List.filter_append, List.filter_cons]
      simp only [e3, decide_true, Bool.not_true, Bool.false_eq_true, if_false]
      congr 1
      · refine List.filter_eq_self.2 fun y hy => ?_
        obtain ⟨i, hi⟩ := List.getElem?_of_mem hy
        rw [List.getElem?_take] at hi
        split at hi
        · rename_i hij
          have : kf y ≠ k := fun e => by have := nodup_at h3 hi e2 (e.trans e3.symm); omega
          simpa using this
        · cases hi
      · refine List.filter_eq_self.2 fun y hy => ?_
        obtain ⟨i, hi⟩ := List.getElem?_of_mem hy
        rw [List.getElem?_drop] at hi
        have : kf y ≠ k := fun e => by have := nodup_at h3 hi e2 (e.trans e3.symm); omega
        simpa using this
    have hjl : j < l.length := (List.getElem?_eq_some_iff.1 e2).1
    have hea : ∀ (l : List α) (bs : List Nat) (j : Nat), bs.length = l.length → (entsL fk fv kf l bs).eraseIdx j = entsL fk fv kf (l.eraseIdx j) (bs.eraseIdx j) := by
      intro l
      induction l with
      | nil => intro bs j h; simp [entsL]
      | cons y l ih =>
        intro bs j h
        cases bs with
        | nil => simp at h
        | cons b bs =>
          cases j with
          | zero => simp [entsL]
          | succ j =>
            have := ih bs j (by simpa using h)
            simp only [entsL] at this
            simp [entsL, this]
    refine ⟨.map (entsL fk fv kf (l.eraseIdx j) (bs.eraseIdx j)).toArray c, fun u i => ?_, fun u i => ⟨bs.eraseIdx j, c, ?_, ?_, ?_, ?_, ?_⟩⟩
    · simp [Builtin.delete_, run_underlying ht, MapKept.run_getObj_map (hget u), L.check, e1, Result.andThen, MapKept.run_setObj_map _ (hget u), putAt, hea l bs j hl]
    · rw [hr]; unfold putAt
      rw [Array.getElem?_setIfInBounds, if_pos rfl, if_pos (blk_lt (hget u))]
    · rw [hr, List.length_eraseIdx, List.length_eraseIdx, hl]
    · exact h1.sublist (List.eraseIdx_sublist ..)
    · intro b hb'; exact h2 b ((List.eraseIdx_sublist ..).subset hb')
    · rw [hr]; exact h3.sublist ((List.eraseIdx_sublist ..).map kf)
end
end
end Go.Proofs.YtjegncmkebbdfaaGreatDoor

namespace Go.Proofs.YtjegncmkebbdfaaGreatDoor
open Go.RowKit
section
variable {κ α : Type} {fk : κ → Value} {fv : α → Value} {kf : α → κ} {w w' : World} {g r : Nat} {l : List α} {idxs : List Nat}
/-- Block r ranges over the map in block g, which holds l; those at idxs have come. -/
def RangeL (fk : κ → Value) (fv : α → Value) (kf : α → κ) (w : World) (g r : Nat) (l : List α) (idxs : List Nat) : Prop :=
  ∃ (bs : List Nat) (clock since : Nat) (seen : Array Nat) (c0 : Nat), w.heap[g]? = some (.map (entsL fk fv kf l bs).toArray clock) ∧ bs.length = l.length ∧ bs.Nodup ∧ (∀ b ∈ bs, b < clock) ∧ (l.map kf).Nodup ∧
    w.heap[r]? = some (.mapIter (some g) since seen c0) ∧ since ≤ c0 ∧ since ≤ clock ∧ (∀ b ∈ bs, b < since) ∧ idxs.Nodup ∧ (∀ i ∈ idxs, i < l.length) ∧ (∀ (i b : Nat), bs[i]? = some b → (seen.contains b = true ↔ i ∈ idxs)) ∧ seen.size = idxs.length
def pickL (l : List α) (idxs : List Nat) : List α := idxs.filterMap fun i => l[i]?
theorem RangeL.mapL (h : RangeL fk fv kf w g r l idxs) : MapL fk fv kf w g l := by
  obtain ⟨bs, c, s, sn, c0, h1, h2, h3, h4, h5, _⟩ := h
  exact ⟨bs, c, h1, h2, h3, h4, h5⟩
theorem RangeL.lt (h : RangeL fk fv kf w g r l idxs) : g < w.heap.size ∧ r < w.heap.size ∧ g ≠ r := by
  obtain ⟨bs, c, s, sn, c0, h1, h2, h3, h4, h5, h6, _⟩ := h
  exact ⟨blk_lt h1, blk_lt h6, fun e => by rw [e, h6] at h1; cases h1⟩
theorem RangeL.of_heap (h : RangeL fk fv kf w g r l idxs) (hg : w'.heap[g]? = w.heap[g]?) (hr : w'.heap[r]? = w.heap[r]?) : RangeL fk fv kf w' g r l idxs := by
  obtain ⟨bs, c, s, sn, c0, h1, h2, h3, h4, h5, h6, h7⟩ := h
  exact ⟨bs, c, s, sn, c0, hg.trans h1, h2, h3, h4, h5, hr.trans h6, h7⟩
theorem RangeL.below (h : RangeL fk fv kf w g r l idxs) (hb : Below w.heap.size w w') : RangeL fk fv kf w' g r l idxs := h.of_heap (hb.block g h.lt.1) (hb.block r h.lt.2.1)
theorem RangeL.later (h : RangeL fk fv kf w g r l idxs) : ∀ u [Later w u], RangeL fk fv kf u g r l idxs := fun _ i => h.below i.below
theorem RangeL.of_walks (h : RangeL fk fv kf w g r l idxs) (hk : KeepsWalks w w') : RangeL fk fv kf w' g r l idxs := by
  obtain ⟨bs, c, s, sn, c0, h1, h2, h3, h4, h5, h6, h7⟩ := h
  exact ⟨bs, c, s, sn, c0, hk.same g _ h1 rfl, h2, h3, h4, h5, hk.same r _ h6 rfl, h7⟩
theorem RangeL.iter (h : RangeL fk fv kf w g r l idxs) : ∃ o : Obj, w.heap[r]? = some o ∧ o.isWalk = true := by
  obtain ⟨bs, c, s, sn, c0, h1, h2, h3, h4, h5, h6, h7⟩ := h
  exact ⟨_, h6, rfl⟩
/-- range m. -/
theorem MapL.range {P : Program} {t kt et : TypeId} (ht : P.underlying t = some (.map kt et)) (h : MapL fk fv kf w g l) : ∃ w', (Instr.range t (.map (some g))).run P w = .ok (.pointer (some ⟨w.heap.size, 0, none⟩)) w' ∧ RangeL fk fv kf w' g w.heap.size l [] ∧ w.grownBy w' none ∧ w'.heap.size = w.heap.size + 1 ∧ Below w.heap.size w w' := by
  obtain ⟨bs, c, hb, hl, h1, h2, h3⟩ := h
  refine ⟨w.alloc (.mapIter (some g) c #[] c), run_range_map w t kt et g _ c ht hb, ⟨bs, c, c, #[], c, ?_, hl, h1, h2, h3, heap_alloc_new _ _, Nat.le_refl _, Nat.le_refl _, h2, List.nodup_nil, by simp, by simp, rfl⟩, World.grownBy_alloc _ _ _, by simp, (Below.refl _ _).alloc (Nat.le_refl _) _⟩
  rw [heap_alloc_old w _ (blk_lt hb)]; exact hb
theorem leftOf_mem {l : List α} {bs : List Nat} {seen : Array Nat} {e : MapEntry} (hl : bs.length = l.length) (he : e ∈ (leftOf (entsL fk fv kf l bs).toArray seen).toList) : ∃ (i : Nat) (x : α) (b : Nat), l[i]? = some x ∧ bs[i]? = some b ∧ e = { key := fk (kf x), val := fv x, born := b } ∧ seen.contains b = false := by
  obtain ⟨h1, h2⟩ := mem_left he
  obtain ⟨i, x, b, hx, hb, rfl⟩ := (ents_mem hl).1 (by simpa using h1)
  exact ⟨i, x, b, hx, hb, rfl, h2⟩
/-- The step: either all have come, or one that has not comes. -/
theorem RangeL.next {P : Program} (h : RangeL fk fv kf w g r l idxs) (ty : TypeId) :
    ((∀ i, i < l.length → i ∈ idxs) ∧ (Instr.next (.pointer (some ⟨r, 0, none⟩)) false ty).run P w = .ok (.tuple #[.bool false]) w) ∨
    ∃ (i : Nat) (x : α) (w' : World), l[i]? = some x ∧ i ∉ idxs ∧ (Instr.next (.pointer (some ⟨r, 0, none⟩)) false ty).run P w = .ok (.tuple #[.bool true, fk (kf x), fv x]) w' ∧ RangeL fk fv kf w' g r l (idxs ++ [i]) ∧
      (∀ (u : World) [Later w' u], (Instr.entry (.pointer (some ⟨r, 0, none⟩))).run P u = .ok (.tuple #[fk (kf x), fv x]) u) ∧ w.grownBy w' (some r) ∧ w'.heap.size = w.heap.size ∧ ∀ B, B ≤ r → Below B w w' := by
  have hlt := h.lt
  obtain ⟨bs, c, s, sn, c0, h1, h2, h3, h4, h5, h6, h7, h8, h9, h10, h11, h12, h13⟩ := h
  have hold : ∀ x ∈ (entsL fk fv kf l bs).toArray.toList, x.born < s := fun x hx => by
    obtain ⟨i, y, b, _, hb, rfl⟩ := (ents_mem h2).1 (by simpa using hx)
    exact h9 b (List.mem_of_getElem? hb)
  rcases run_next_at w ty r g s c0 sn _ c h6 h1 hold h7 with ⟨e1, e2⟩ | ⟨e, he, w1, hw1, hrun⟩
  · refine .inl ⟨fun i hi => ?_, e2⟩
    have hall := all_seen _ _ e1
    have hx : l[i]? = some l[i] := List.getElem?_eq_getElem hi
    obtain ⟨b, hb⟩ : ∃ b, bs[i]? = some b := ⟨_, List.getElem?_eq_getElem (by rw [h2]; exact hi)⟩
    have := hall { key := fk (kf l[i]), val := fv l[i], born := b } (by simpa using (ents_mem h2).2 ⟨i, _, b, hx, hb, rfl⟩)
    exact (h12 i b hb).1 this
  · obtain ⟨i, x, b, hx, hb, rfl, hs⟩ := leftOf_mem h2 he
    have hi : i ∉ idxs := fun hi => by rw [(h12 i b hb).2 hi] at hs; cases hs
    have hw1h : w1.heap = w.heap := by rcases hw1 with rfl | rfl <;> rfl
    have hgr : (ChangeMaps.setBlock w1 r (.mapIter (some g) s (sn.push b) c)).heap[g]? = some (.map (entsL fk fv kf l bs).toArray c) := by
      unfold ChangeMaps.setBlock
      simp only
      rw [Array.getElem?_setIfInBounds, if_neg (fun e => hlt.2.2 e.symm), hw1h]; exact h1
    have hrr : (ChangeMaps.setBlock w1 r (.mapIter (some g) s (sn.push b) c)).heap[r]? = some (.mapIter (some g) s (sn.push b) c) := by
      unfold ChangeMaps.setBlock
      simp only
      rw [Array.getElem?_setIfInBounds, if_pos rfl, if_pos (by rw [hw1h]; exact hlt.2.1)]
    have hsz : (ChangeMaps.setBlock w1 r (.mapIter (some g) s (sn.push b) c)).heap.size = w.heap.size := by unfold ChangeMaps.setBlock; simp [hw1h]
    have hoth : ∀ k, k ≠ r → (ChangeMaps.setBlock w1 r (.mapIter (some g) s (sn.push b) c)).heap[k]? = w.heap[k]? := fun k hk => by
      unfold ChangeMaps.setBlock
      simp only
      rw [Array.getElem?_setIfInBounds, if_neg (fun e => hk e.symm), hw1h]
    have hrest : (ChangeMaps.setBlock w1 r (.mapIter (some g) s (sn.push b) c)).os = w.os ∧ (ChangeMaps.setBlock w1 r (.mapIter (some g) s (sn.push b) c)).tape = w.tape ∧ (ChangeMaps.setBlock w1 r (.mapIter (some g) s (sn.push b) c)).output = w.output := by
      rcases hw1 with rfl | rfl <;> exact ⟨rfl, rfl, rfl⟩
    refine .inr ⟨i, x, _, hx, hi, hrun, ⟨bs, c, s, sn.push b, c, hgr, h2, h3, h4, h5, hrr, h8, h8, h9, ?_, ?_, ?_, by simp [h13]⟩, fun u iu => ?_, ?_, hsz, fun B hB => ?_⟩
    · exact List.nodup_append.2 ⟨h10, by simp, fun a ha b' hb' => by rw [List.mem_singleton] at hb'; subst hb'; exact fun e => hi (e ▸ ha)⟩
    · intro j hj
      rcases List.mem_append.1 hj with hj | hj
      · exact h11 j hj
      · rw [List.mem_singleton] at hj; subst hj; exact (List.getElem?_eq_some_iff.1 hx).1
    · intro j b' hb'
      rw [Array.contains_push, List.mem_append, List.mem_singleton, Bool.or_eq_true, h12 j b' hb', beq_iff_eq]
      constructor
      · rintro (h | h)
        · exact .inl h
        · subst h; exact .inr (nodup_at' h3 hb' hb)
      · rintro (h | h)
        · exact .inl h
        · subst h; rw [hb] at hb'; injection hb' with hb'; exact .inr hb'.symm
    · refine run_entry_at u r g s sn _ c { key := fk (kf x), val := fv x, born := b } (blk_below hrr iu.below) (blk_below hgr iu.below) (by simpa using (ents_mem h2).2 ⟨i, x, b, hx, hb, rfl⟩) ?_
      have := ents_born (fk := fk) (fv := fv) (kf := kf) h2
      rw [List.toList_toArray] 
      rw [this]; exact h3
    · exact ⟨hrest.1, hrest.2.1, hrest.2.2, by rw [hsz]; exact Nat.le_refl _, fun k _ hk => hoth k (fun e => hk (by rw [e]))⟩
    · exact ⟨hrest.1, hrest.2.1, hrest.2.2, by rw [hsz]; exact Nat.le_refl _, fun k hk => hoth k (by omega)⟩
theorem pick_range : ∀ (l : List α), pickL l (List.range l.length) = l := by
  intro l
  have key : ∀ (n : Nat), n ≤ l.length → pickL l (List.range n) = l.take n := by
    intro n
    induction n with
    | zero => intro _; simp [pickL]
    | succ n ih =>
      intro hn
      have hx : l[n]? = some (l[n]'(by omega)) := List.getElem?_eq_getElem _
      unfold pickL at ih ⊢
      rw [List.range_succ, List.filterMap_append, ih (by omega), List.take_add_one, hx]
      simp [hx]
  rw [key _ (Nat.le_refl _), List.take_length]
/-- What has come, when all has: the list, in some order. -/
theorem pick_all (hn : idxs.Nodup) (hlt : ∀ i ∈ idxs, i < l.length) (hall : ∀ i, i < l.length → i ∈ idxs) : (pickL l idxs).Perm l := by
  have hp : idxs.Perm (List.range l.length) := (List.perm_ext_iff_of_nodup hn List.nodup_range).2 fun i => by rw [List.mem_range]; exact ⟨hlt i, hall i⟩
  have h1 : (pickL l idxs).Perm (pickL l (List.range l.length)) := hp.filterMap _
  exact h1.trans (List.Perm.of_eq (pick_range l))
theorem RangeL.facts (h : RangeL fk fv kf w g r l idxs) : idxs.Nodup ∧ ∀ i ∈ idxs, i < l.length := by
  obtain ⟨bs, c, s, sn, c0, h1, h2, h3, h4, h5, h6, h7, h8, h9, h10, h11, h12, h13⟩ := h
  exact ⟨h10, h11⟩
theorem RangeL.seen (h : RangeL fk fv kf w g r l idxs) : (w.iterSeen r).size = idxs.length := by
  obtain ⟨bs, c, s, sn, c0, h1, h2, h3, h4, h5, h6, h7, h8, h9, h10, h11, h12, h13⟩ := h
  unfold World.iterSeen
  rw [h6]; exact h13
theorem nodup_lenR {n : Nat} {idxs : List Nat} (h : idxs.Nodup) (hlt : ∀ i ∈ idxs, i < n) : idxs.length ≤ n := by
  have hp : idxs.Perm ((List.range n).filter fun i => decide (i ∈ idxs)) := (List.perm_ext_iff_of_nodup h (List.nodup_range.filter _)).2 fun i => by
    rw [List.mem_filter, List.mem_range, decide_eq_true_eq]
    exact ⟨fun hi => ⟨hlt i hi, hi⟩, fun hi => hi.2⟩
  have := List.length_filter_le (fun i => decide (i ∈ idxs)) (List.range n)
  rw [List.length_range] at this
  rw [hp.length_eq]; exact this
theorem RangeL.len (h : RangeL fk fv kf w g r l idxs) : idxs.length ≤ l.length := nodup_lenR h.facts.1 h.facts.2
/-- A store at a key that is there: the range goes on. -/
theorem RangeL.put [DecidableEq κ] {P : Program} {kt et t : TypeId} (L : KeyL P kt fk) (ht : P.underlying t = some (.map kt et)) (h : RangeL fk fv kf w g r l idxs) {j : Nat} {x v : α} (hx : l[j]? = some x) (hk : kf x = kf v) : ∃ o : Obj,
    (∀ (u : World) [Later w u], (Instr.mapUpdate t (.map (some g)) (fk (kf v)) (fv v)).run P u = .ok () (putAt u g o)) ∧ (∀ (u : World) [Later w u], RangeL fk fv kf (putAt u g o) g r (l.set j v) idxs) ∧
    (∀ (u : World) [Later w u] a, (putAt u g o).cell? a = u.cell? a) ∧ (∀ (u : World) [Later w u] a, (putAt u g o).frozen? a = u.frozen? a) := by
  obtain ⟨o, o1, o2, o3, o4⟩ := run_putL L ht h.mapL v
  have hlt := h.lt
  have hpk := putK_old h.mapL.nodup hx hk
  rw [hpk] at o2
  obtain ⟨bs, c, s, sn, c0, h1, h2, h3, h4, h5, h6, h7, h8, h9, h10, h11, h12, h13⟩ := h
  have hl2 : (l.set j v).length = l.length := List.length_set
  have hent : o = .map (entsL fk fv kf (l.set j v) bs).toArray c := by
    have hjl := (List.getElem?_eq_some_iff.1 hx).1
    obtain ⟨b, hbj⟩ : ∃ b, bs[j]? = some b := ⟨_, List.getElem?_eq_getElem (by rw [h2]; exact hjl)⟩
    have hrun := o1 w
    rcases MapL.find (fv := fv) (kf := kf) L h2 h5 (kf v) with ⟨e1, e2⟩ | ⟨j', x', e1, e2, e3⟩
    · exact absurd hk (e2 x (List.mem_of_getElem? hx))
    · have hjj : j' = j := nodup_at h5 e2 hx (e3.trans hk.symm)
      subst hjj
      rw [hx] at e2; injection e2 with e2; subst e2
      have hej := (ents_get (fk := fk) (fv := fv) (kf := kf) h2).2 ⟨x, b, hx, hbj, rfl⟩
      have hmod : (entsL fk fv kf l bs).modify j' (fun e => { e with key := fk (kf v), val := fv v }) = entsL fk fv kf (l.set j' v) bs := by
        apply List.ext_getElem?
        intro i
        rw [List.getElem?_modify]
        by_cases hij : j' = i
        · subst hij
          rw [hej, (ents_get (fk := fk) (fv := fv) (kf := kf) (by rw [hl2]; exact h2)).2 ⟨v, b, List.getElem?_set_self hjl, hbj, rfl⟩]
          simp
        · simp only [if_neg hij]
          cases hi : (entsL fk fv kf l bs)[i]? with
          | none =>
            symm
            show _ = none
            rw [List.getElem?_eq_none_iff] at hi ⊢
            rw [ents_length (by rw [hl2]; exact h2), hl2]
            rw [ents_length h2] at hi; exact hi
          | some e =>
            obtain ⟨x', b', hx', hb', rfl⟩ := (ents_get h2).1 hi
            symm
            exact (ents_get (by rw [hl2]; exact h2)).2 ⟨x', b', by rw [List.getElem?_set_ne hij]; exact hx', hb', rfl⟩
      simp [Instr.mapUpdate, run_underlying ht, MapKept.run_getObj_map h1, L.check, e1, Result.andThen, hej, hk, L.stays, MapKept.run_setObj_map _ h1, putAt] at hrun
      have hg := congrArg (fun a : Array Obj => a[g]?) hrun
      simp only [Array.getElem?_setIfInBounds, if_pos, hlt.1] at hg
      injection hg with hg
      rw [← hg, ← hmod]
  subst hent
  refine ⟨_, o1, fun u i => ⟨bs, c, s, sn, c0, ?_, by rw [hl2]; exact h2, h3, h4, ?_, ?_, h7, h8, h9, h10, by rw [hl2]; exact h11, h12, h13⟩, o3, o4⟩
  · unfold putAt
    rw [Array.getElem?_setIfInBounds, if_pos rfl, if_pos (Nat.lt_of_lt_of_le hlt.1 i.below.size)]
  · have := (o2 u).nodup; exact this
  · unfold putAt
    simp only
    rw [Array.getElem?_setIfInBounds, if_neg hlt.2.2]
    exact blk_below h6 i.below
end
end Go.Proofs.YtjegncmkebbdfaaGreatDoor
